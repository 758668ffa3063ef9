/-
  Texts of this claim, part 5 of 6: an abstract machine over the model; what functions come to; plain laws.
-/
import Derived.Test.YtpkgpldgoajphaaMSealSame4
import Derived.Laws.Externs
set_option maxRecDepth 100000
set_option linter.unusedVariables false
set_option linter.unusedSimpArgs false
namespace Go.Proofs.Ytpkgpldgoajphaa.AM
open Go Go.Proofs.Ytpkgpldgoajphaa
attribute [local irreducible] ACalls funT codeT codeQ LoopTo
attribute [local irreducible] Tp.card Tp.cardT Tp.next Tp.step Tp.cards Tp.cardsT Tp.key Tp.keyT sink insSort pickS pickL pickN pickK mostN cmpL lateE orderK sortK insK posK beforeK onceStep onceS onceK sortP lastS lastK cmpK byteB cutS textB byteAt intB showsC hereL seenK cardB sealB sumStep sumB ofB clashB strL bstr
def tC' (t : Tp) (n : Nat) : List Card := (t.step (n + 1)).cards (t.next (n + 1))
theorem tC'_len (t : Tp) (n : Nat) : (tC' t n).length ≤ n := by
  have := Tp.next_lt t (n + 1) (by omega)
  unfold tC'; rw [Tp.cards_len]; omega
def sparts_ann : Ann := { gha := [(1, .cut 0)], fin := some 0, live := [(5, [3, 4, 5, 13, 14, 15])], out := [(5, [3, 4, 5, 13, 14, 15])] }
set_option maxRecDepth 100000 in
theorem sparts_step (l : List Card) (b : ByteArray) (n : Nat) (i : Nat) (hl : l.length < 20) (hb : b.size ≤ i * 10420) (hn : n ≤ i) (hle_ : i ≤ l.length) {eX : Ex} {FX : Fr} {HX : Heap} (k1 : (decide (((i : Nat) : Int) < ((l.length : Nat) : Int))) = true → (!((nth l i).gone == ((((sealB ((l.take (i + 1)).drop i)).length : Nat) : Int) == 0))) = true → ((.ret : Ex), (mkF 61 [(3, (AV.sl .any 9 (List.map Card.row l))), (4, (AV.str b)), (5, (AV.int .i64 ((n : Nat) : Int))), (13, (AV.sl .any 9 (List.map Card.row l))), (14, (AV.int .i64 ((l.length : Nat) : Int))), (15, (AV.int .i64 ((i : Nat) : Int)))]), ([] : Heap)) = (eX, FX, HX)) (k2 : (decide (((i : Nat) : Int) < ((l.length : Nat) : Int))) = true → (!((nth l i).gone == ((((sealB ((l.take (i + 1)).drop i)).length : Nat) : Int) == 0))) = false → (!(nth l i).gone) = true → LoopTo (codeQ Try.prog (X sparts_ann) (loopOf Try.f14 0)) (some [3, 4, 5, 13, 14, 15]) (some [3, 4, 5, 13, 14, 15]) (mkF 61 [(3, (AV.sl .any 9 (List.map Card.row l))), (4, (AV.str (b ++ (bstr (sealB ((l.take (i + 1)).drop i)))))), (5, (AV.int .i64 ((n + 1 : Nat) : Int))), (13, (AV.sl .any 9 (List.map Card.row l))), (14, (AV.int .i64 ((l.length : Nat) : Int))), (15, (AV.int .i64 ((i + 1 : Nat) : Int)))]) ([] : Heap) eX FX HX) (k3 : (decide (((i : Nat) : Int) < ((l.length : Nat) : Int))) = true → (!((nth l i).gone == ((((sealB ((l.take (i + 1)).drop i)).length : Nat) : Int) == 0))) = false → (!(nth l i).gone) = false → LoopTo (codeQ Try.prog (X sparts_ann) (loopOf Try.f14 0)) (some [3, 4, 5, 13, 14, 15]) (some [3, 4, 5, 13, 14, 15]) (mkF 61 [(3, (AV.sl .any 9 (List.map Card.row l))), (4, (AV.str (b ++ (bstr (sealB ((l.take (i + 1)).drop i)))))), (5, (AV.int .i64 ((n : Nat) : Int))), (13, (AV.sl .any 9 (List.map Card.row l))), (14, (AV.int .i64 ((l.length : Nat) : Int))), (15, (AV.int .i64 ((i + 1 : Nat) : Int)))]) ([] : Heap) eX FX HX) (k4 : (decide (((i : Nat) : Int) < ((l.length : Nat) : Int))) = false → ((.exit 0 : Ex), (mkF 61 [(3, (AV.sl .any 9 (List.map Card.row l))), (4, (AV.str b)), (5, (AV.int .i64 ((n : Nat) : Int))), (13, (AV.sl .any 9 (List.map Card.row l))), (14, (AV.int .i64 ((l.length : Nat) : Int))), (15, (AV.int .i64 ((i : Nat) : Int)))]), ([] : Heap)) = (eX, FX, HX)) : LoopTo (codeQ Try.prog (X sparts_ann) (loopOf Try.f14 0)) (some [3, 4, 5, 13, 14, 15]) (some [3, 4, 5, 13, 14, 15]) (mkF 61 [(3, (AV.sl .any 9 (List.map Card.row l))), (4, (AV.str b)), (5, (AV.int .i64 ((n : Nat) : Int))), (13, (AV.sl .any 9 (List.map Card.row l))), (14, (AV.int .i64 ((l.length : Nat) : Int))), (15, (AV.int .i64 ((i : Nat) : Int)))]) ([] : Heap) eX FX HX := by
  have h1 := sealB_len ((l.take (i + 1)).drop i)
  have h2 : ((l.take (i + 1)).drop i).length ≤ 19 := (by simp; omega)
  have h3 := bstr_size (sealB ((l.take (i + 1)).drop i))
  refine LoopTo.step (.reg [] [] [] (.two (.reg [] [] [] (.reg [(3, ((AV.int .i64 ((i + 1 : Nat) : Int)), ([] : Heap))), (4, ((AV.sl .any 9 (List.map Card.row ((l.take (i + 1)).drop i))), ([] : Heap))), (5, ((AV.sl .any 1 (List.map rU8 (sealB ((l.take (i + 1)).drop i)))), ([] : Heap)))] [] [] (.reg [(2, ((AV.ref (Card.row (nth l i)) 0), ([] : Heap))), (6, ((AV.int .i64 (((sealB ((l.take (i + 1)).drop i)).length : Nat) : Int)), ([] : Heap)))] [] [] (.two (.reg [] [] [] .nil) (.reg [(2, ((AV.str (bstr (sealB ((l.take (i + 1)).drop i)))), ([] : Heap))), (3, ((AV.str (b ++ (bstr (sealB ((l.take (i + 1)).drop i))))), ([] : Heap)))] [] [] (.reg [(2, ((AV.ref (Card.row (nth l i)) 0), ([] : Heap)))] [] [] (.two (.reg [(1, ((AV.int .i64 ((n + 1 : Nat) : Int)), ([] : Heap)))] [] [] (.reg [(0, ((AV.int .i64 ((i + 1 : Nat) : Int)), ([] : Heap)))] [] [] .nil)) (.reg [(0, ((AV.int .i64 ((i + 1 : Nat) : Int)), ([] : Heap)))] [] [] .nil)))))))) .nil)) ?_
  refine Eq.mp (by kernel_rfl : (cond (decide (((i : Nat) : Int) < ((l.length : Nat) : Int))) ((Yes (.int .i64 (IntKind.i64.wrap (((i : Nat) : Int) + 1))) ([] : Heap) (AV.int .i64 ((i + 1 : Nat) : Int))) ∧ (Option.map (fun a => (a, ([] : Heap))) (if 9 = 9 ∨ ((List.map Card.row l)).isEmpty = true then (bounds ((i : Nat) : Int) ((i + 1 : Nat) : Int) (List.length (List.map Card.row l))).map fun p => AV.sl .any 9 ((List.take p.2 (List.map Card.row l)).drop p.1) else none) = some ((AV.sl .any 9 (List.map Card.row ((l.take (i + 1)).drop i))), ([] : Heap))) ∧ (ACalls Try.prog 49 [(AV.sl .any 9 (List.map Card.row ((l.take (i + 1)).drop i)))] ([] : Heap) ((AV.sl .any 1 (List.map rU8 (sealB ((l.take (i + 1)).drop i)))), ([] : Heap))) ∧ (IdxSl 9 9 (List.map Card.row l) ((i : Nat) : Int) ([] : Heap) (Card.row (nth l i))) ∧ (Yes (.int .i64 ((List.length (List.map rU8 (sealB ((l.take (i + 1)).drop i))) : Nat) : Int)) ([] : Heap) (AV.int .i64 (((sealB ((l.take (i + 1)).drop i)).length : Nat) : Int))) ∧ cond (!((nth l i).gone == ((((sealB ((l.take (i + 1)).drop i)).length : Nat) : Int) == 0))) (((.ret : Ex), (mkF 61 [(3, (AV.sl .any 9 (List.map Card.row l))), (4, (AV.str b)), (5, (AV.int .i64 ((n : Nat) : Int))), (13, (AV.sl .any 9 (List.map Card.row l))), (14, (AV.int .i64 ((l.length : Nat) : Int))), (15, (AV.int .i64 ((i : Nat) : Int)))]), ([] : Heap)) = (eX, FX, HX)) ((Option.map (fun a => (a, ([] : Heap))) (if 1 = 1 ∨ ((List.map rU8 (sealB ((l.take (i + 1)).drop i)))).isEmpty = true then (bytesOf (List.map rU8 (sealB ((l.take (i + 1)).drop i)))).map fun l => AV.str ⟨l.toArray⟩ else none) = some ((AV.str (bstr (sealB ((l.take (i + 1)).drop i)))), ([] : Heap))) ∧ (Option.map (fun a => (a, ([] : Heap))) (if ((b.size + (bstr (sealB ((l.take (i + 1)).drop i))).size : Nat) : Int) > IntKind.i64.max then none else some (.str (b ++ (bstr (sealB ((l.take (i + 1)).drop i)))))) = some ((AV.str (b ++ (bstr (sealB ((l.take (i + 1)).drop i))))), ([] : Heap))) ∧ (IdxSl 9 9 (List.map Card.row l) ((i : Nat) : Int) ([] : Heap) (Card.row (nth l i))) ∧ cond (!(nth l i).gone) ((Yes (.int .i64 (IntKind.i64.wrap (((n : Nat) : Int) + 1))) ([] : Heap) (AV.int .i64 ((n + 1 : Nat) : Int))) ∧ (Yes (.int .i64 (IntKind.i64.wrap (((i : Nat) : Int) + 1))) ([] : Heap) (AV.int .i64 ((i + 1 : Nat) : Int))) ∧ LoopTo (codeQ Try.prog (X sparts_ann) (loopOf Try.f14 0)) (some [3, 4, 5, 13, 14, 15]) (some [3, 4, 5, 13, 14, 15]) (mkF 61 [(3, (AV.sl .any 9 (List.map Card.row l))), (4, (AV.str (b ++ (bstr (sealB ((l.take (i + 1)).drop i)))))), (5, (AV.int .i64 ((n + 1 : Nat) : Int))), (13, (AV.sl .any 9 (List.map Card.row l))), (14, (AV.int .i64 ((l.length : Nat) : Int))), (15, (AV.int .i64 ((i + 1 : Nat) : Int)))]) ([] : Heap) eX FX HX) ((Yes (.int .i64 (IntKind.i64.wrap (((i : Nat) : Int) + 1))) ([] : Heap) (AV.int .i64 ((i + 1 : Nat) : Int))) ∧ LoopTo (codeQ Try.prog (X sparts_ann) (loopOf Try.f14 0)) (some [3, 4, 5, 13, 14, 15]) (some [3, 4, 5, 13, 14, 15]) (mkF 61 [(3, (AV.sl .any 9 (List.map Card.row l))), (4, (AV.str (b ++ (bstr (sealB ((l.take (i + 1)).drop i)))))), (5, (AV.int .i64 ((n : Nat) : Int))), (13, (AV.sl .any 9 (List.map Card.row l))), (14, (AV.int .i64 ((l.length : Nat) : Int))), (15, (AV.int .i64 ((i + 1 : Nat) : Int)))]) ([] : Heap) eX FX HX))) (((.exit 0 : Ex), (mkF 61 [(3, (AV.sl .any 9 (List.map Card.row l))), (4, (AV.str b)), (5, (AV.int .i64 ((n : Nat) : Int))), (13, (AV.sl .any 9 (List.map Card.row l))), (14, (AV.int .i64 ((l.length : Nat) : Int))), (15, (AV.int .i64 ((i : Nat) : Int)))]), ([] : Heap)) = (eX, FX, HX))) = _) ?_
  refine cond_split (fun h1 => ?_) (fun h1 => ?_)
  · have h1' := h1
    try simp at h1'
    refine And.intro (Yes.add (by omega) (by omega) (by omega)) ?_
    refine And.intro (slice_sl (l := i) (h := i + 1) (by first | omega | (simp; done) | (simp; omega)) (by first | omega | (simp; done) | (simp; omega)) (by first | omega | (simp; done) | (simp; omega)) (by first | omega | (simp; done) | (simp; omega)) (by simp [List.map_take, List.map_drop, List.take_of_length_le])) ?_
    refine And.intro (sealB_at ((l.take (i + 1)).drop i) (by first | omega | assumption | (simp; done) | (simp; omega) | (simp_all; done) | (simp_all; omega)) ([] : Heap)) ?_
    refine And.intro (IdxSl.mk _ (by omega) (by omega)) ?_
    refine And.intro (Yes.len _ _ _) ?_
    refine cond_split (fun h2 => ?_) (fun h2 => ?_)
    · have h2' := h2
      try simp at h2'
      exact k1 h1 h2
    · have h2' := h2
      try simp at h2'
      refine And.intro (conv_bytes _) ?_
      refine And.intro (str_add (by omega)) ?_
      refine And.intro (IdxSl.mk _ (by omega) (by omega)) ?_
      refine cond_split (fun h3 => ?_) (fun h3 => ?_)
      · have h3' := h3
        try simp at h3'
        refine And.intro (Yes.add (by omega) (by omega) (by omega)) ?_
        refine And.intro (Yes.add (by omega) (by omega) (by omega)) ?_
        exact k2 h1 h2 h3
      · have h3' := h3
        try simp at h3'
        refine And.intro (Yes.add (by omega) (by omega) (by omega)) ?_
        exact k3 h1 h2 h3
  · have h1' := h1
    try simp at h1'
    exact k4 h1
def sparts_f (l : List Card) (i : Nat) (s : ByteArray × Nat) : ByteArray × Nat := (if (!(nth l i).gone) = true then ((s.1 ++ (bstr (sealB ((l.take (i + 1)).drop i)))), s.2 + 1) else ((s.1 ++ (bstr (sealB ((l.take (i + 1)).drop i)))), s.2))
def sparts_bad (l : List Card) (b : ByteArray) (n : Nat) (i : Nat) : Prop := (((decide (((i : Nat) : Int) < ((l.length : Nat) : Int))) = true) ∧ ((!((nth l i).gone == ((((sealB ((l.take (i + 1)).drop i)).length : Nat) : Int) == 0))) = true))
theorem sparts_loop (l : List Card) (hl : l.length < 20) (z_b : ByteArray) (z_n : Nat) (hbad : ∀ (i : Nat), i < l.length → ¬ sparts_bad l (iter (sparts_f l) i 0 (z_b, z_n)).1 (iter (sparts_f l) i 0 (z_b, z_n)).2 i) (r_ : Nat) : ∀ (b : ByteArray) (n : Nat) (i : Nat) (sF : ByteArray × Nat), i + r_ = l.length → b.size ≤ i * 10420 → n ≤ i → (b, n) = (iter (sparts_f l) i 0 (z_b, z_n)) → sF = iter (sparts_f l) r_ i (b, n) →
    LoopTo (codeQ Try.prog (X sparts_ann) (loopOf Try.f14 0)) (some [3, 4, 5, 13, 14, 15]) (some [3, 4, 5, 13, 14, 15]) (mkF 61 [(3, (AV.sl .any 9 (List.map Card.row l))), (4, (AV.str b)), (5, (AV.int .i64 ((n : Nat) : Int))), (13, (AV.sl .any 9 (List.map Card.row l))), (14, (AV.int .i64 ((l.length : Nat) : Int))), (15, (AV.int .i64 ((i : Nat) : Int)))]) ([] : Heap) (.exit 0) (mkF 61 [(3, (AV.sl .any 9 (List.map Card.row l))), (4, (AV.str sF.1)), (5, (AV.int .i64 ((sF.2 : Nat) : Int))), (13, (AV.sl .any 9 (List.map Card.row l))), (14, (AV.int .i64 ((l.length : Nat) : Int))), (15, (AV.int .i64 ((l.length : Nat) : Int)))]) ([] : Heap) := by
  induction r_ with
  | zero =>
    intro b n i sF hi_ hb hn hs_ hF
    obtain rfl : l.length = i := by omega
    have e_ : sF = (b, n) := hF
    refine sparts_step l b n l.length hl hb hn (Nat.le_refl _) (fun h _ => by simp at h <;> omega) (fun h _ _ => by simp at h <;> omega) (fun h _ _ => by simp at h <;> omega) (fun _ => ?_)
    first | done | rfl | (rw [e_]; done) | (rw [e_]; rfl)
  | succ r_ ih =>
    intro b n i sF hi_ hb hn hs_ hF
    refine sparts_step l b n i hl hb hn (by omega) (fun h1 h2 => ?_) (fun h1 h2 h3 => ?_) (fun h1 h2 h3 => ?_) (fun h => by simp at h <;> omega)
    · exact False.elim (by
        have hb_ := hbad i (by omega)
        try rw [← hs_] at hb_
        exact hb_ (⟨h1, h2⟩))
    · exact ih (b ++ (bstr (sealB ((l.take (i + 1)).drop i)))) (n + 1) (i + 1) sF (by omega) (by have h1 := sealB_len ((l.take (i + 1)).drop i); have h2 : ((l.take (i + 1)).drop i).length ≤ 19 := (by simp; omega); have h3 := bstr_size (sealB ((l.take (i + 1)).drop i)); have h4 : (b ++ bstr (sealB ((l.take (i + 1)).drop i))).size = b.size + (bstr (sealB ((l.take (i + 1)).drop i))).size := ByteArray.size_append; first | omega | assumption | (simp; done) | (simp; omega) | (simp [*]; done) | (simp [*]; omega)) (by have h1 := sealB_len ((l.take (i + 1)).drop i); have h2 : ((l.take (i + 1)).drop i).length ≤ 19 := (by simp; omega); have h3 := bstr_size (sealB ((l.take (i + 1)).drop i)); have h4 : (b ++ bstr (sealB ((l.take (i + 1)).drop i))).size = b.size + (bstr (sealB ((l.take (i + 1)).drop i))).size := ByteArray.size_append; first | omega | assumption | (simp; done) | (simp; omega) | (simp [*]; done) | (simp [*]; omega)) (by rw [iter_succ, ← hs_] <;> simp only [sparts_f, h2, h3, if_true, Bool.false_eq_true, if_false]) (by rw [hF] <;> simp only [iter, sparts_f, h2, h3, if_true, Bool.false_eq_true, if_false])
    · exact ih (b ++ (bstr (sealB ((l.take (i + 1)).drop i)))) n (i + 1) sF (by omega) (by have h1 := sealB_len ((l.take (i + 1)).drop i); have h2 : ((l.take (i + 1)).drop i).length ≤ 19 := (by simp; omega); have h3 := bstr_size (sealB ((l.take (i + 1)).drop i)); have h4 : (b ++ bstr (sealB ((l.take (i + 1)).drop i))).size = b.size + (bstr (sealB ((l.take (i + 1)).drop i))).size := ByteArray.size_append; first | omega | assumption | (simp; done) | (simp; omega) | (simp [*]; done) | (simp [*]; omega)) (by have h1 := sealB_len ((l.take (i + 1)).drop i); have h2 : ((l.take (i + 1)).drop i).length ≤ 19 := (by simp; omega); have h3 := bstr_size (sealB ((l.take (i + 1)).drop i)); have h4 : (b ++ bstr (sealB ((l.take (i + 1)).drop i))).size = b.size + (bstr (sealB ((l.take (i + 1)).drop i))).size := ByteArray.size_append; first | omega | assumption | (simp; done) | (simp; omega) | (simp [*]; done) | (simp [*]; omega)) (by rw [iter_succ, ← hs_] <;> simp only [sparts_f, h2, h3, if_true, Bool.false_eq_true, if_false]) (by rw [hF] <;> simp only [iter, sparts_f, h2, h3, if_true, Bool.false_eq_true, if_false])
set_option maxRecDepth 100000 in
theorem sparts_spec (tape : List Int) (hl : tape.length < 9223372036854775808) (hB : ∀ (i : Nat), i < (onceK (((⟨tape, 0⟩ : Tp).step (12 + 1)).cards ((⟨tape, 0⟩ : Tp).next (12 + 1)))).length → ¬ sparts_bad (onceK (((⟨tape, 0⟩ : Tp).step (12 + 1)).cards ((⟨tape, 0⟩ : Tp).next (12 + 1)))) (iter (sparts_f (onceK (((⟨tape, 0⟩ : Tp).step (12 + 1)).cards ((⟨tape, 0⟩ : Tp).next (12 + 1))))) i 0 (⟨#[]⟩, 0)).1 (iter (sparts_f (onceK (((⟨tape, 0⟩ : Tp).step (12 + 1)).cards ((⟨tape, 0⟩ : Tp).next (12 + 1))))) i 0 (⟨#[]⟩, 0)).2 i) (h1 : bstr (sealB (onceK (((⟨tape, 0⟩ : Tp).step (12 + 1)).cards ((⟨tape, 0⟩ : Tp).next (12 + 1))))) = (iter (sparts_f (onceK (((⟨tape, 0⟩ : Tp).step (12 + 1)).cards ((⟨tape, 0⟩ : Tp).next (12 + 1))))) (onceK (((⟨tape, 0⟩ : Tp).step (12 + 1)).cards ((⟨tape, 0⟩ : Tp).next (12 + 1)))).length 0 (⟨#[]⟩, 0)).1) (h2 : (seenK (onceK (((⟨tape, 0⟩ : Tp).step (12 + 1)).cards ((⟨tape, 0⟩ : Tp).next (12 + 1))))).length = (iter (sparts_f (onceK (((⟨tape, 0⟩ : Tp).step (12 + 1)).cards ((⟨tape, 0⟩ : Tp).next (12 + 1))))) (onceK (((⟨tape, 0⟩ : Tp).step (12 + 1)).cards ((⟨tape, 0⟩ : Tp).next (12 + 1)))).length 0 (⟨#[]⟩, 0)).2) : ACalls Try.prog 14 [(AV.sl .any 1 (List.map rI64 tape))] ([] : Heap) ((AV.bool true), ([] : Heap)) := by
  have e1 : (((⟨tape, 0⟩ : Tp).step (12 + 1)).cards ((⟨tape, 0⟩ : Tp).next (12 + 1))).length ≤ 12 := tC'_len (⟨tape, 0⟩ : Tp) 12
  have e3 := onceK_len (((⟨tape, 0⟩ : Tp).step (12 + 1)).cards ((⟨tape, 0⟩ : Tp).next (12 + 1)))
  refine spec (fn := Try.f14) (ann := sparts_ann) (t := (.reg [] [] [] (.reg [(3, ((AV.sl .any 9 (List.map Card.row ((Tp.mk tape 0).step (12 + 1) |>.cards ((Tp.mk tape 0).next (12 + 1))))), ([⟨0, 2, [(Tp.row (((Tp.mk tape 0).step (12 + 1)).cardsT ((Tp.mk tape 0).next (12 + 1))))], none⟩] : Heap))), (4, ((AV.sl .any 9 (List.map Card.row (onceK ((Tp.mk tape 0).step (12 + 1) |>.cards ((Tp.mk tape 0).next (12 + 1)))))), ([⟨0, 2, [(Tp.row (((Tp.mk tape 0).step (12 + 1)).cardsT ((Tp.mk tape 0).next (12 + 1))))], none⟩] : Heap)))] [] [] (.reg [] [] [] (.reg [] [] [] (.reg [(1, ((AV.int .i64 (((onceK ((Tp.mk tape 0).step (12 + 1) |>.cards ((Tp.mk tape 0).next (12 + 1)))).length : Nat) : Int)), ([] : Heap)))] [] [] (.loop (.exit 0) (mkF 61 [(3, (AV.sl .any 9 (List.map Card.row (onceK ((Tp.mk tape 0).step (12 + 1) |>.cards ((Tp.mk tape 0).next (12 + 1))))))), (4, (AV.str ((iter (sparts_f (onceK ((Tp.mk tape 0).step (12 + 1) |>.cards ((Tp.mk tape 0).next (12 + 1))))) (onceK ((Tp.mk tape 0).step (12 + 1) |>.cards ((Tp.mk tape 0).next (12 + 1)))).length 0 (⟨#[]⟩, 0)).1))), (5, (AV.int .i64 (((iter (sparts_f (onceK ((Tp.mk tape 0).step (12 + 1) |>.cards ((Tp.mk tape 0).next (12 + 1))))) (onceK ((Tp.mk tape 0).step (12 + 1) |>.cards ((Tp.mk tape 0).next (12 + 1)))).length 0 (⟨#[]⟩, 0)).2 : Nat) : Int))), (13, (AV.sl .any 9 (List.map Card.row (onceK ((Tp.mk tape 0).step (12 + 1) |>.cards ((Tp.mk tape 0).next (12 + 1))))))), (14, (AV.int .i64 (((onceK ((Tp.mk tape 0).step (12 + 1) |>.cards ((Tp.mk tape 0).next (12 + 1)))).length : Nat) : Int))), (15, (AV.int .i64 (((onceK ((Tp.mk tape 0).step (12 + 1) |>.cards ((Tp.mk tape 0).next (12 + 1)))).length : Nat) : Int)))]) ([] : Heap) (.reg [(1, ((AV.sl .any 1 (List.map rU8 (sealB (onceK ((Tp.mk tape 0).step (12 + 1) |>.cards ((Tp.mk tape 0).next (12 + 1))))))), ([] : Heap))), (2, ((AV.str (bstr (sealB (onceK ((Tp.mk tape 0).step (12 + 1) |>.cards ((Tp.mk tape 0).next (12 + 1))))))), ([] : Heap))), (4, ((AV.bool true), ([] : Heap))), (7, ((AV.sl .any 9 (List.map Card.row (seenK (onceK ((Tp.mk tape 0).step (12 + 1) |>.cards ((Tp.mk tape 0).next (12 + 1))))))), ([] : Heap))), (8, ((AV.int .i64 (((seenK (onceK ((Tp.mk tape 0).step (12 + 1) |>.cards ((Tp.mk tape 0).next (12 + 1))))).length : Nat) : Int)), ([] : Heap))), (10, ((AV.bool true), ([] : Heap))), (13, ((AV.bool true), ([] : Heap)))] [] [] (.two (.two (.two (.two (.two (.two .nil .nil) .nil) .nil) .nil) .nil) .nil))))))))) (Nat.le_of_ble_eq_true (by kernel_rfl)) ⟨Try.func14, by kernel_rfl, by kernel_rfl, by kernel_rfl⟩ ?_
  refine Eq.mp (by kernel_rfl : ((ACalls Try.prog 29 [(AV.obj 0 0 0 0), (AV.int .i64 12)] ([⟨0, 2, [[(AV.sl .any 1 (List.map rI64 tape)), (AV.int .i64 0)]], none⟩] : Heap) ((AV.sl .any 9 (List.map Card.row ((Tp.mk tape 0).step (12 + 1) |>.cards ((Tp.mk tape 0).next (12 + 1))))), ([⟨0, 2, [(Tp.row (((Tp.mk tape 0).step (12 + 1)).cardsT ((Tp.mk tape 0).next (12 + 1))))], none⟩] : Heap))) ∧ (ACalls Try.prog 28 [(AV.sl .any 9 (List.map Card.row ((Tp.mk tape 0).step (12 + 1) |>.cards ((Tp.mk tape 0).next (12 + 1)))))] ([⟨0, 2, [(Tp.row (((Tp.mk tape 0).step (12 + 1)).cardsT ((Tp.mk tape 0).next (12 + 1))))], none⟩] : Heap) ((AV.sl .any 9 (List.map Card.row (onceK ((Tp.mk tape 0).step (12 + 1) |>.cards ((Tp.mk tape 0).next (12 + 1)))))), ([⟨0, 2, [(Tp.row (((Tp.mk tape 0).step (12 + 1)).cardsT ((Tp.mk tape 0).next (12 + 1))))], none⟩] : Heap))) ∧ (obsB 0 ([] : Heap) = true) ∧ (Yes (.int .i64 ((List.length (List.map Card.row (onceK ((Tp.mk tape 0).step (12 + 1) |>.cards ((Tp.mk tape 0).next (12 + 1))))) : Nat) : Int)) ([] : Heap) (AV.int .i64 (((onceK ((Tp.mk tape 0).step (12 + 1) |>.cards ((Tp.mk tape 0).next (12 + 1)))).length : Nat) : Int))) ∧ (LoopTo (codeQ Try.prog (X sparts_ann) (loopOf Try.f14 0)) (some [3, 4, 5, 13, 14, 15]) (some [3, 4, 5, 13, 14, 15]) (mkF 61 [(3, (AV.sl .any 9 (List.map Card.row (onceK ((Tp.mk tape 0).step (12 + 1) |>.cards ((Tp.mk tape 0).next (12 + 1))))))), (4, (AV.str (ByteArray.mk #[]))), (5, (AV.int .i64 0)), (13, (AV.sl .any 9 (List.map Card.row (onceK ((Tp.mk tape 0).step (12 + 1) |>.cards ((Tp.mk tape 0).next (12 + 1))))))), (14, (AV.int .i64 (((onceK ((Tp.mk tape 0).step (12 + 1) |>.cards ((Tp.mk tape 0).next (12 + 1)))).length : Nat) : Int))), (15, (AV.int .i64 0))]) ([] : Heap) (.exit 0) (mkF 61 [(3, (AV.sl .any 9 (List.map Card.row (onceK ((Tp.mk tape 0).step (12 + 1) |>.cards ((Tp.mk tape 0).next (12 + 1))))))), (4, (AV.str ((iter (sparts_f (onceK ((Tp.mk tape 0).step (12 + 1) |>.cards ((Tp.mk tape 0).next (12 + 1))))) (onceK ((Tp.mk tape 0).step (12 + 1) |>.cards ((Tp.mk tape 0).next (12 + 1)))).length 0 (⟨#[]⟩, 0)).1))), (5, (AV.int .i64 (((iter (sparts_f (onceK ((Tp.mk tape 0).step (12 + 1) |>.cards ((Tp.mk tape 0).next (12 + 1))))) (onceK ((Tp.mk tape 0).step (12 + 1) |>.cards ((Tp.mk tape 0).next (12 + 1)))).length 0 (⟨#[]⟩, 0)).2 : Nat) : Int))), (13, (AV.sl .any 9 (List.map Card.row (onceK ((Tp.mk tape 0).step (12 + 1) |>.cards ((Tp.mk tape 0).next (12 + 1))))))), (14, (AV.int .i64 (((onceK ((Tp.mk tape 0).step (12 + 1) |>.cards ((Tp.mk tape 0).next (12 + 1)))).length : Nat) : Int))), (15, (AV.int .i64 (((onceK ((Tp.mk tape 0).step (12 + 1) |>.cards ((Tp.mk tape 0).next (12 + 1)))).length : Nat) : Int)))]) ([] : Heap)) ∧ (ACalls Try.prog 49 [(AV.sl .any 9 (List.map Card.row (onceK ((Tp.mk tape 0).step (12 + 1) |>.cards ((Tp.mk tape 0).next (12 + 1))))))] ([] : Heap) ((AV.sl .any 1 (List.map rU8 (sealB (onceK ((Tp.mk tape 0).step (12 + 1) |>.cards ((Tp.mk tape 0).next (12 + 1))))))), ([] : Heap))) ∧ (Option.map (fun a => (a, ([] : Heap))) (if 1 = 1 ∨ ((List.map rU8 (sealB (onceK ((Tp.mk tape 0).step (12 + 1) |>.cards ((Tp.mk tape 0).next (12 + 1))))))).isEmpty = true then (bytesOf (List.map rU8 (sealB (onceK ((Tp.mk tape 0).step (12 + 1) |>.cards ((Tp.mk tape 0).next (12 + 1))))))).map fun l => AV.str ⟨l.toArray⟩ else none) = some ((AV.str (bstr (sealB (onceK ((Tp.mk tape 0).step (12 + 1) |>.cards ((Tp.mk tape 0).next (12 + 1))))))), ([] : Heap))) ∧ (Yes (AV.bool ((bstr (sealB (onceK ((Tp.mk tape 0).step (12 + 1) |>.cards ((Tp.mk tape 0).next (12 + 1)))))).toList == ((iter (sparts_f (onceK ((Tp.mk tape 0).step (12 + 1) |>.cards ((Tp.mk tape 0).next (12 + 1))))) (onceK ((Tp.mk tape 0).step (12 + 1) |>.cards ((Tp.mk tape 0).next (12 + 1)))).length 0 (⟨#[]⟩, 0)).1).toList)) ([] : Heap) (AV.bool true)) ∧ (ACalls Try.prog 47 [(AV.sl .any 9 (List.map Card.row (onceK ((Tp.mk tape 0).step (12 + 1) |>.cards ((Tp.mk tape 0).next (12 + 1))))))] ([] : Heap) ((AV.sl .any 9 (List.map Card.row (seenK (onceK ((Tp.mk tape 0).step (12 + 1) |>.cards ((Tp.mk tape 0).next (12 + 1))))))), ([] : Heap))) ∧ (Yes (.int .i64 ((List.length (List.map Card.row (seenK (onceK ((Tp.mk tape 0).step (12 + 1) |>.cards ((Tp.mk tape 0).next (12 + 1)))))) : Nat) : Int)) ([] : Heap) (AV.int .i64 (((seenK (onceK ((Tp.mk tape 0).step (12 + 1) |>.cards ((Tp.mk tape 0).next (12 + 1))))).length : Nat) : Int))) ∧ (Yes (AV.bool ((((seenK (onceK ((Tp.mk tape 0).step (12 + 1) |>.cards ((Tp.mk tape 0).next (12 + 1))))).length : Nat) : Int) == (((iter (sparts_f (onceK ((Tp.mk tape 0).step (12 + 1) |>.cards ((Tp.mk tape 0).next (12 + 1))))) (onceK ((Tp.mk tape 0).step (12 + 1) |>.cards ((Tp.mk tape 0).next (12 + 1)))).length 0 (⟨#[]⟩, 0)).2 : Nat) : Int))) ([] : Heap) (AV.bool true)) ∧ (ACalls Try.prog 44 [] ([] : Heap) ((AV.bool true), ([] : Heap))) ∧ (AV.bdd 0 (AV.bool true) = true ∧ obsB 0 ([] : Heap) = true) ∧ ((AV.bool true), ([] : Heap)) = ((AV.bool true), ([] : Heap))) = _) ?_
  refine And.intro ((cards_at (Tp.mk tape 0) 12 (by first | omega | assumption | (simp; done) | (simp; omega) | (simp_all; done) | (simp_all; omega)) (by first | omega | assumption | (simp; done) | (simp; omega) | (simp_all; done) | (simp_all; omega)) ([] : Heap)).pre ⟨AV.wk_refl_any _, AV.wk_refl_any _, trivial⟩) ?_
  refine And.intro (once_at ((Tp.mk tape 0).step (12 + 1) |>.cards ((Tp.mk tape 0).next (12 + 1))) (by first | omega | assumption | (simp; done) | (simp; omega) | (simp_all; done) | (simp_all; omega)) ([⟨0, 2, [(Tp.row (((Tp.mk tape 0).step (12 + 1)).cardsT ((Tp.mk tape 0).next (12 + 1))))], none⟩] : Heap)) ?_
  refine And.intro (by first | (simp [obsB, AV.bddss, AV.bdds, AV.bdd]; done) | (simp [obsB, AV.bddss, AV.bdds, AV.bdd, -List.map_append]; done) | simp [obsB, AV.bddss, AV.bdds, AV.bdd, -List.map_append, -List.map_set, -List.map_take, -List.map_drop, -List.map_cons, -List.map_map]) ?_
  refine And.intro (Yes.len _ _ _) ?_
  refine And.intro ((sparts_loop (onceK ((Tp.mk tape 0).step (12 + 1) |>.cards ((Tp.mk tape 0).next (12 + 1)))) (by omega) ⟨#[]⟩ 0 hB (List.length (onceK ((Tp.mk tape 0).step (12 + 1) |>.cards ((Tp.mk tape 0).next (12 + 1))))) ⟨#[]⟩ 0 0 _ (by omega) (Nat.zero_le _) (by omega) rfl rfl)) ?_
  refine And.intro (sealB_at (onceK ((Tp.mk tape 0).step (12 + 1) |>.cards ((Tp.mk tape 0).next (12 + 1)))) (by first | omega | assumption | (simp; done) | (simp; omega) | (simp_all; done) | (simp_all; omega)) ([] : Heap)) ?_
  refine And.intro (conv_bytes _) ?_
  refine And.intro (Yes.bool (by rw [h1]; simp)) ?_
  refine And.intro (seen_at (onceK ((Tp.mk tape 0).step (12 + 1) |>.cards ((Tp.mk tape 0).next (12 + 1)))) (by first | omega | assumption | (simp; done) | (simp; omega) | (simp_all; done) | (simp_all; omega)) ([] : Heap)) ?_
  refine And.intro (Yes.len _ _ _) ?_
  refine And.intro (Yes.bool (by rw [h2]; simp)) ?_
  refine And.intro (known14_at   ([] : Heap)) ?_
  refine And.intro (by first | (simp [obsB, AV.bddss, AV.bdds, AV.bdd]; done) | (simp [obsB, AV.bddss, AV.bdds, AV.bdd, -List.map_append]; done) | simp [obsB, AV.bddss, AV.bdds, AV.bdd, -List.map_append, -List.map_set, -List.map_take, -List.map_drop, -List.map_cons, -List.map_map]) ?_
  rfl
theorem sparts_at (tape : List Int) (hl : tape.length < 9223372036854775808) (hB : ∀ (i : Nat), i < (onceK (((⟨tape, 0⟩ : Tp).step (12 + 1)).cards ((⟨tape, 0⟩ : Tp).next (12 + 1)))).length → ¬ sparts_bad (onceK (((⟨tape, 0⟩ : Tp).step (12 + 1)).cards ((⟨tape, 0⟩ : Tp).next (12 + 1)))) (iter (sparts_f (onceK (((⟨tape, 0⟩ : Tp).step (12 + 1)).cards ((⟨tape, 0⟩ : Tp).next (12 + 1))))) i 0 (⟨#[]⟩, 0)).1 (iter (sparts_f (onceK (((⟨tape, 0⟩ : Tp).step (12 + 1)).cards ((⟨tape, 0⟩ : Tp).next (12 + 1))))) i 0 (⟨#[]⟩, 0)).2 i) (h1 : bstr (sealB (onceK (((⟨tape, 0⟩ : Tp).step (12 + 1)).cards ((⟨tape, 0⟩ : Tp).next (12 + 1))))) = (iter (sparts_f (onceK (((⟨tape, 0⟩ : Tp).step (12 + 1)).cards ((⟨tape, 0⟩ : Tp).next (12 + 1))))) (onceK (((⟨tape, 0⟩ : Tp).step (12 + 1)).cards ((⟨tape, 0⟩ : Tp).next (12 + 1)))).length 0 (⟨#[]⟩, 0)).1) (h2 : (seenK (onceK (((⟨tape, 0⟩ : Tp).step (12 + 1)).cards ((⟨tape, 0⟩ : Tp).next (12 + 1))))).length = (iter (sparts_f (onceK (((⟨tape, 0⟩ : Tp).step (12 + 1)).cards ((⟨tape, 0⟩ : Tp).next (12 + 1))))) (onceK (((⟨tape, 0⟩ : Tp).step (12 + 1)).cards ((⟨tape, 0⟩ : Tp).next (12 + 1)))).length 0 (⟨#[]⟩, 0)).2) (H : Heap) : ACalls Try.prog 14 [(AV.sl .any 1 (List.map rI64 tape))] H ((AV.bool true), H) := (sparts_spec tape hl hB h1 h2).lift (by kernel_rfl) (by kernel_rfl) H
end Go.Proofs.Ytpkgpldgoajphaa.AM

set_option linter.unusedVariables false
set_option linter.unusedSimpArgs false
set_option maxRecDepth 100000
namespace Go.Proofs.Ytpkgpldgoajphaa.AM
open Go
attribute [local irreducible] Tp.card Tp.cardT Tp.next Tp.step Tp.cards Tp.cardsT Tp.key Tp.keyT

/-! ### texts -/
theorem bl_irrefl : ∀ (x : List UInt8), Op.bytesLess x x = false
  | [] => rfl
  | a :: x => by
    have := bl_irrefl x
    simp [Op.bytesLess, this]
theorem bl_asymm : ∀ (x y : List UInt8), Op.bytesLess x y = true → Op.bytesLess y x = false
  | [], [], h => by simp [Op.bytesLess] at h
  | [], b :: y, h => rfl
  | a :: x, [], h => by simp [Op.bytesLess] at h
  | a :: x, b :: y, h => by
    simp only [Op.bytesLess, Bool.or_eq_true, Bool.and_eq_true, decide_eq_true_eq, beq_iff_eq] at h
    rcases h with h | ⟨rfl, h⟩
    · have h1 : ¬ b < a := fun h' => by exact absurd (UInt8.lt_trans h h') (UInt8.lt_irrefl _)
      have h2 : ¬ b = a := fun e => by subst e; exact UInt8.lt_irrefl _ h
      simp [Op.bytesLess, h1, h2]
    · have := bl_asymm x y h
      simp [Op.bytesLess, this]
theorem bl_trans : ∀ (x y z : List UInt8), Op.bytesLess x y = true → Op.bytesLess y z = true → Op.bytesLess x z = true
  | [], [], z, h, _ => by simp [Op.bytesLess] at h
  | [], b :: y, [], _, h => by simp [Op.bytesLess] at h
  | [], b :: y, c :: z, _, _ => rfl
  | a :: x, [], z, h, _ => by simp [Op.bytesLess] at h
  | a :: x, b :: y, [], _, h => by simp [Op.bytesLess] at h
  | a :: x, b :: y, c :: z, h, k => by
    simp only [Op.bytesLess, Bool.or_eq_true, Bool.and_eq_true, decide_eq_true_eq, beq_iff_eq] at h k ⊢
    rcases h with h | ⟨rfl, h⟩
    · rcases k with k | ⟨rfl, k⟩
      · exact .inl (UInt8.lt_trans h k)
      · exact .inl h
    · rcases k with k | ⟨rfl, k⟩
      · exact .inl k
      · exact .inr ⟨rfl, bl_trans x y z h k⟩
theorem bl_tri : ∀ (x y : List UInt8), Op.bytesLess x y = false → Op.bytesLess y x = false → x = y
  | [], [], _, _ => rfl
  | [], b :: y, h, _ => by simp [Op.bytesLess] at h
  | a :: x, [], _, h => by simp [Op.bytesLess] at h
  | a :: x, b :: y, h, k => by
    simp only [Op.bytesLess, Bool.or_eq_false_iff, decide_eq_false_iff_not] at h k
    have e : a = b := by
      rcases UInt8.lt_or_lt_of_ne (a := a) (b := b) |> fun f => Classical.em (a = b) with e | e
      · exact e
      · rcases UInt8.lt_or_lt_of_ne e with h1 | h1
        · exact absurd h1 h.1
        · exact absurd h1 k.1
    subst e
    simp only [beq_self_eq_true, Bool.true_and] at h k
    rw [bl_tri x y h.2 k.2]
theorem ba_eq {a b : ByteArray} (h : a.toList = b.toList) : a = b := by
  rw [ByteArray.toList_eq, ByteArray.toList_eq] at h
  obtain ⟨⟨a⟩⟩ := a
  obtain ⟨⟨b⟩⟩ := b
  simp at h
  rw [h]

/-! ### keys -/
theorem Key.eqb_iff (a b : Key) : Key.eqb a b = true ↔ a = b := by
  unfold Key.eqb
  constructor
  · intro h
    simp only [Bool.and_true, Bool.and_eq_true, beq_iff_eq] at h
    cases a; cases b
    exact congr (congrArg Key.mk (ba_eq h.1)) (ba_eq h.2)
  · intro h; subst h; simp
theorem Key.eqb_false {a b : Key} : Key.eqb a b = false ↔ a ≠ b := by
  rw [Ne, ← Key.eqb_iff]; simp
theorem bk_irrefl (a : Key) : beforeK a a = false := by simp [beforeK, bl_irrefl]
theorem bk_asymm {a b : Key} (h : beforeK a b = true) : beforeK b a = false := by
  unfold beforeK at *
  by_cases e : a.app.toList = b.app.toList
  · have e' : b.app.toList = a.app.toList := e.symm
    simp [e] at h
    simp [e']
    exact bl_asymm _ _ h
  · have e' : ¬ b.app.toList = a.app.toList := fun x => e x.symm
    simp [e] at h
    simp [e']
    exact bl_asymm _ _ h
theorem bk_trans {a b c : Key} (h : beforeK a b = true) (k : beforeK b c = true) : beforeK a c = true := by
  unfold beforeK at *
  by_cases e : a.app.toList = b.app.toList
  · by_cases f : b.app.toList = c.app.toList
    · simp [e] at h; simp [f] at k; simp [e, f]
      exact bl_trans _ _ _ h k
    · simp [f] at k
      have : ¬ a.app.toList = c.app.toList := by rw [e]; exact f
      simp [this]; rw [e]; exact k
  · simp [e] at h
    by_cases f : b.app.toList = c.app.toList
    · have : ¬ a.app.toList = c.app.toList := by rw [← f]; exact e
      simp [this]; rw [← f]; exact h
    · simp [f] at k
      have h1 := bl_trans _ _ _ h k
      have : ¬ a.app.toList = c.app.toList := fun x => by rw [x] at h; have := bl_asymm _ _ h; rw [k] at this; simp at this
      simp [this]; exact h1
theorem bk_tri {a b : Key} (h : beforeK a b = false) (k : beforeK b a = false) : a = b := by
  unfold beforeK at *
  by_cases e : a.app.toList = b.app.toList
  · have e' : b.app.toList = a.app.toList := e.symm
    simp [e] at h; simp [e'] at k
    have h2 := bl_tri _ _ h k
    cases a; cases b
    exact congr (congrArg Key.mk (ba_eq e)) (ba_eq h2)
  · have e' : ¬ b.app.toList = a.app.toList := fun x => e x.symm
    simp [e] at h; simp [e'] at k
    exact absurd (bl_tri _ _ h k) e
theorem bk_ne {a b : Key} (h : beforeK a b = true) : a ≠ b := fun e => by subst e; rw [bk_irrefl] at h; simp at h
/-- not behind, and before: before. -/
theorem bk_le_lt {a b c : Key} (h : beforeK b a = false) (k : beforeK b c = true) : beforeK a c = true := by
  cases e : beforeK a b with
  | true => exact bk_trans e k
  | false => rw [bk_tri e h]; exact k
theorem bk_lt_le {a b c : Key} (h : beforeK a b = true) (k : beforeK c b = false) : beforeK a c = true := by
  cases e : beforeK b c with
  | true => exact bk_trans h e
  | false => rw [← bk_tri e k]; exact h
theorem bk_le_trans {a b c : Key} (h : beforeK b a = false) (k : beforeK c b = false) : beforeK c a = false := by
  cases e : beforeK c a with
  | false => rfl
  | true => have := bk_lt_le e h; rw [this] at k; simp at k
theorem less_before (a b : Key) : lessK a b = beforeK a b := by
  unfold lessK cmpK cmpS beforeK
  by_cases h1 : Op.bytesLess a.app.toList b.app.toList = true
  · have : ¬ a.app.toList = b.app.toList := fun e => by rw [e, bl_irrefl] at h1; simp at h1
    simp [h1, this]
  · by_cases h2 : a.app.toList = b.app.toList
    · simp [h2, bl_irrefl]
      by_cases h3 : Op.bytesLess a.id.toList b.id.toList = true
      · simp [h3]
      · by_cases h4 : a.id.toList = b.id.toList
        · simp [h4, bl_irrefl]
        · simp [h3, h4]
    · simp [h1, h2]

/-! ### the reference's sort -/
def WkC (a b : Card) : Prop := beforeK b.key a.key = false
def StC (a b : Card) : Prop := beforeK a.key b.key = true
theorem nth_mem {α : Type} [Inhabited α] {l : List α} {i : Nat} (h : i < l.length) : nth l i ∈ l := List.mem_of_getElem? (nth_get h)
theorem nth_getElem {α : Type} [Inhabited α] {l : List α} {i : Nat} (h : i < l.length) : nth l i = l[i] := by
  simp [nth, List.getD_eq_getElem?_getD, List.getElem?_eq_getElem h]
theorem pw_nth {α : Type} [Inhabited α] {R : α → α → Prop} {l : List α} : List.Pairwise R l ↔ ∀ i j, i < j → j < l.length → R (nth l i) (nth l j) := by
  rw [List.pairwise_iff_getElem]
  constructor
  · intro h i j hij hj
    rw [nth_getElem (show i < l.length by omega), nth_getElem hj]
    exact h i j _ _ hij
  · intro h i j hi hj hij
    have := h i j hij hj
    rwa [nth_getElem hi, nth_getElem hj] at this
theorem mem_nth {α : Type} [Inhabited α] {l : List α} {x : α} (h : x ∈ l) : ∃ i, i < l.length ∧ nth l i = x := by
  obtain ⟨i, hi, rfl⟩ := List.getElem_of_mem h
  exact ⟨i, hi, nth_getElem hi⟩
theorem nth_take {α : Type} [Inhabited α] {l : List α} {i k : Nat} (h : i < k) : nth (l.take k) i = nth l i := by
  simp [nth, List.getD_eq_getElem?_getD, List.getElem?_take, h]
theorem nth_drop {α : Type} [Inhabited α] {l : List α} {i k : Nat} : nth (l.drop k) i = nth l (k + i) := by
  simp [nth, List.getD_eq_getElem?_getD, List.getElem?_drop]

theorem posK_spec (c : Card) (out : List Card) (k : Nat) : (∀ i, posK c out k ≤ i → i < k → beforeK c.key (nth out i).key = true) ∧ (0 < posK c out k → beforeK c.key (nth out (posK c out k - 1)).key = false) := by
  induction k with
  | zero => simp only [posK]; exact ⟨fun i h1 h2 => by omega, fun h => by omega⟩
  | succ k ih =>
    simp only [posK]
    split
    · rename_i h
      refine ⟨fun i h1 h2 => ?_, ih.2⟩
      rcases Nat.lt_or_ge i k with h3 | h3
      · exact ih.1 i h1 h3
      · rw [show i = k by omega]; exact h
    · rename_i h
      exact ⟨fun i h1 h2 => by omega, fun _ => by simpa using h⟩
theorem insK_perm (out : List Card) (c : Card) : List.Perm (insK out c) (c :: out) := by
  unfold insK
  rw [List.append_assoc, List.singleton_append]
  refine List.perm_middle.trans ?_
  rw [List.take_append_drop]
theorem insK_sorted {out : List Card} (h : List.Pairwise WkC out) (c : Card) : List.Pairwise WkC (insK out c) := by
  obtain ⟨h1, h2⟩ := posK_spec c out out.length
  have hp := posK_le c out out.length
  generalize hpe : posK c out out.length = p at *
  have hs := pw_nth.1 h
  unfold insK
  rw [hpe, List.append_assoc, List.singleton_append, List.pairwise_append]
  refine ⟨h.sublist (List.take_sublist _ _), List.pairwise_cons.2 ⟨fun y hy => ?_, h.sublist (List.drop_sublist _ _)⟩, fun x hx y hy => ?_⟩
  · obtain ⟨i, hi, rfl⟩ := mem_nth hy
    simp only [List.length_drop] at hi
    rw [nth_drop]
    exact bk_asymm (h1 (p + i) (by omega) (by omega))
  · have hxp : beforeK c.key x.key = false := by
      obtain ⟨i, hi, rfl⟩ := mem_nth hx
      simp only [List.length_take] at hi
      rw [nth_take (by omega)]
      have h3 := h2 (by omega)
      rcases Nat.lt_or_ge i (p - 1) with h4 | h4
      · exact bk_le_trans (hs i (p - 1) h4 (by omega)) h3
      · rw [show i = p - 1 by omega]; exact h3
    rcases List.mem_cons.1 hy with rfl | hy
    · exact hxp
    · obtain ⟨i, hi, rfl⟩ := mem_nth hx
      obtain ⟨j, hj, rfl⟩ := mem_nth hy
      simp only [List.length_take] at hi
      simp only [List.length_drop] at hj
      rw [nth_take (by omega), nth_drop]
      exact hs i (p + j) (by omega) (by omega)
theorem foldl_insK (l : List Card) : ∀ (out : List Card), List.Pairwise WkC out → List.Pairwise WkC (l.foldl insK out) ∧ List.Perm (l.foldl insK out) (out ++ l) := by
  induction l with
  | nil => intro out h; exact ⟨h, by simp⟩
  | cons c l ih =>
    intro out h
    obtain ⟨h1, h2⟩ := ih (insK out c) (insK_sorted h c)
    refine ⟨h1, h2.trans ?_⟩
    exact ((insK_perm out c).append_right l).trans (by simpa using List.perm_middle.symm)
theorem sortK_sorted (l : List Card) : List.Pairwise WkC (sortK l) := (foldl_insK l [] List.Pairwise.nil).1
theorem sortK_perm (l : List Card) : List.Perm (sortK l) l := (foldl_insK l [] List.Pairwise.nil).2

/-! ### Once -/
theorem onceF (s : List Card) : ∀ (out : List Card) (g : Nat), List.Pairwise WkC (out ++ s) → List.Pairwise StC out →
    List.Pairwise StC (s.foldl onceStep (out, g)).1 ∧ ∀ x ∈ (s.foldl onceStep (out, g)).1, x ∈ out ∨ x ∈ s := by
  induction s with
  | nil => intro out g h1 h2; exact ⟨h2, fun x hx => .inl hx⟩
  | cons c s ih =>
    intro out g h1 h2
    rw [List.foldl_cons]
    have app : ∀ (hlt : ∀ x ∈ out, beforeK x.key c.key = true), List.Pairwise StC (s.foldl onceStep (out ++ [c], g + 1)).1 ∧ ∀ x ∈ (s.foldl onceStep (out ++ [c], g + 1)).1, x ∈ out ∨ x ∈ c :: s := by
      intro hlt
      obtain ⟨a1, a2⟩ := ih (out ++ [c]) (g + 1) (by simpa using h1) (List.pairwise_append.2 ⟨h2, List.pairwise_singleton _ _, fun x hx y hy => by simp at hy; subst hy; exact hlt x hx⟩)
      refine ⟨a1, fun x hx => ?_⟩
      rcases a2 x hx with h | h
      · rcases List.mem_append.1 h with h | h
        · exact .inl h
        · simp at h; subst h; exact .inr (by simp)
      · exact .inr (by simp [h])
    have hw := List.pairwise_append.1 h1
    rcases List.eq_nil_or_concat out with rfl | ⟨init, last, hc⟩
    · have : onceStep ([], g) c = ([] ++ [c], g + 1) := by simp [onceStep]
      rw [this]
      exact app (fun x hx => by simp at hx)
    · have hc' : out = init ++ [last] := by simpa using hc
      have hlen : out.length = init.length + 1 := by rw [hc']; simp
      have hlast : nth out (out.length - 1) = last := by rw [hlen, hc', Nat.add_sub_cancel]; exact nth_append_len init last []
      have h0 : decide ((out.length : Int) > 0) = true := by simp; omega
      have hlm : last ∈ out := by rw [hc']; simp
      by_cases he : Key.eqb last.key c.key = true
      · have hset : out.set (out.length - 1) c = init ++ [c] := by rw [hlen, Nat.add_sub_cancel, hc']; simp
        have : onceStep (out, g) c = (init ++ [c], g) := by
          simp only [onceStep]
          rw [if_pos h0, hlast, if_pos he, hset]
        rw [this]
        have hk := (Key.eqb_iff _ _).1 he
        rw [hc'] at h1 h2
        have hp2 := List.pairwise_append.1 h2
        obtain ⟨a1, a2⟩ := ih (init ++ [c]) g (h1.sublist (by
          rw [List.append_assoc, List.append_assoc]
          refine List.Sublist.append_left ?_ _
          simp)) (List.pairwise_append.2 ⟨hp2.1, List.pairwise_singleton _ _, fun x hx y hy => by
            simp at hy; subst hy
            have := hp2.2.2 x hx last (by simp)
            unfold StC at this ⊢
            rw [← hk]; exact this⟩)
        refine ⟨a1, fun x hx => ?_⟩
        rcases a2 x hx with h | h
        · rcases List.mem_append.1 h with h | h
          · exact .inl (by rw [hc']; simp [h])
          · simp at h; subst h; exact .inr (by simp)
        · exact .inr (by simp [h])
      · have : onceStep (out, g) c = (out ++ [c], g + 1) := by
          simp only [onceStep]
          rw [if_pos h0, hlast, if_neg he]
        rw [this]
        have hll : beforeK last.key c.key = true := by
          have h3 : beforeK c.key last.key = false := hw.2.2 last hlm c (by simp)
          cases h4 : beforeK last.key c.key with
          | true => rfl
          | false => exact absurd ((Key.eqb_iff _ _).2 (bk_tri h4 h3)) he
        refine app fun x hx => ?_
        rw [hc'] at hx
        rcases List.mem_append.1 hx with hx | hx
        · rw [hc'] at h2
          have := (List.pairwise_append.1 h2).2.2 x hx last (by simp)
          exact bk_trans this hll
        · simp at hx; subst hx; exact hll
theorem onceK_sorted (l : List Card) : List.Pairwise StC (onceK l) := (onceF (sortK l) [] 0 (by simpa using sortK_sorted l) List.Pairwise.nil).1
theorem onceK_mem {l : List Card} {x : Card} (h : x ∈ onceK l) : x ∈ l := by
  rcases (onceF (sortK l) [] 0 (by simpa using sortK_sorted l) List.Pairwise.nil).2 x h with h | h
  · simp at h
  · exact (sortK_perm l).mem_iff.1 h

/-! ### insertion sort in place -/
theorem swap_perm {α : Type} [Inhabited α] {l : List α} {i j : Nat} (hi : i < l.length) (hj : j < l.length) : List.Perm ((l.set i (nth l j)).set j (nth l i)) l := by
  rw [nth_getElem hi, nth_getElem hj]
  exact List.set_set_perm hi hj
theorem sink_perm {α : Type} [Inhabited α] (cmp : α → α → Int) (a j : Nat) : ∀ (l : List α), j < l.length → List.Perm (sink cmp a j l) l := by
  induction j with
  | zero => intro l _; simp only [sink]; exact List.Perm.refl _
  | succ j ih =>
    intro l h
    simp only [sink]
    split
    · split
      · exact (ih _ (by simp; omega)).trans (swap_perm h (by omega))
      · exact List.Perm.refl _
    · exact List.Perm.refl _
theorem insSort_perm {α : Type} [Inhabited α] (cmp : α → α → Int) (a k : Nat) : ∀ (i : Nat) (l : List α), i + k ≤ l.length → List.Perm (insSort cmp a k i l) l := by
  induction k with
  | zero => intro i l _; simp only [insSort]; exact List.Perm.refl _
  | succ k ih =>
    intro i l h
    simp only [insSort]
    exact (ih (i + 1) _ (by rw [sink_len]; omega)).trans (sink_perm cmp a i l (by omega))
theorem insSort_perm0 {α : Type} [Inhabited α] (cmp : α → α → Int) (l : List α) : List.Perm (insSort cmp 0 (l.length - 1) 1 l) l := by
  rcases Nat.eq_zero_or_pos l.length with h | h
  · have : l = [] := List.eq_nil_of_length_eq_zero h
    subst this; simp [insSort]
  · exact insSort_perm cmp 0 _ 1 l (by omega)

/-! ### what the tape makes -/
theorem Tp.cards_mem (n : Nat) : ∀ (t : Tp) (c : Card), c ∈ t.cards n → ∃ t' : Tp, c = t'.card := by
  induction n with
  | zero => intro t c h; simp [Tp.cards] at h
  | succ n ih =>
    intro t c h
    simp only [Tp.cards, List.mem_cons] at h
    rcases h with h | h
    · exact ⟨t, h⟩
    · exact ih _ c h
theorem madeE_card (cs : List Card) : ∀ (t : Tp), (madeE t cs).map (·.card) = cs := by
  induction cs with
  | nil => intro t; rfl
  | cons c cs ih => intro t; simp only [madeE, List.map_cons, ih]
theorem madeE_seen (cs : List Card) : ∀ (t : Tp) (e : Entry), e ∈ madeE t cs → 0 ≤ e.seen ∧ e.seen < 120 := by
  induction cs with
  | nil => intro t e h; simp [madeE] at h
  | cons c cs ih =>
    intro t e h
    simp only [madeE, List.mem_cons] at h
    rcases h with h | h
    · subst h
      have := t.next_lt 120 (by omega)
      simp only
      omega
    · exact ih _ e h
theorem madeC_mem {tape : List Int} {most : Nat} {c : Card} (h : c ∈ madeC tape most) : ∃ t' : Tp, c = t'.card := Tp.cards_mem _ _ c (onceK_mem h)
theorem madeL_mem {tape : List Int} {most : Nat} {e : Entry} (h : e ∈ madeL tape most) : e.card ∈ madeC tape most := by
  have : (madeL tape most).map (·.card) = madeC tape most := madeE_card _ _
  rw [← this]
  exact List.mem_map_of_mem h
/-- Entries of unlike keys, by key. -/
theorem madeL_sorted (tape : List Int) (most : Nat) : List.Pairwise (fun a b : Entry => beforeK a.card.key b.card.key = true) (madeL tape most) := by
  have h1 : (madeL tape most).map (·.card) = madeC tape most := madeE_card _ _
  have h2 : List.Pairwise StC (madeC tape most) := onceK_sorted _
  rw [← h1, List.pairwise_map] at h2
  exact h2
theorem madeL_seen {tape : List Int} {most : Nat} {e : Entry} (h : e ∈ madeL tape most) : 0 ≤ e.seen ∧ e.seen < 120 := madeE_seen _ _ e h
end Go.Proofs.Ytpkgpldgoajphaa.AM

set_option linter.unusedVariables false
set_option linter.unusedSimpArgs false
set_option maxRecDepth 100000
set_option linter.unusedSectionVars false
namespace Go.Proofs.Ytpkgpldgoajphaa.AM
open Go
section
variable {α : Type} [Inhabited α]
/-- Where x comes among the first k, from the right: behind all that it is not ahead of. -/
def posG (lt : α → α → Bool) (x : α) (out : List α) : Nat → Nat
  | 0 => 0
  | k + 1 => if lt x (nth out k) = true then posG lt x out k else k + 1
def insG (lt : α → α → Bool) (out : List α) (x : α) : List α := (out.take (posG lt x out out.length) ++ [x]) ++ out.drop (posG lt x out out.length)
theorem posG_le (lt : α → α → Bool) (x : α) (out : List α) (k : Nat) : posG lt x out k ≤ k := by
  induction k with
  | zero => simp only [posG]; omega
  | succ k ih => simp only [posG]; split <;> omega
theorem posG_congr (lt : α → α → Bool) (x : α) {out out' : List α} (k : Nat) (h : ∀ i, i < k → nth out i = nth out' i) : posG lt x out k = posG lt x out' k := by
  induction k with
  | zero => rfl
  | succ k ih => simp only [posG]; rw [h k (by omega), ih fun i hi => h i (by omega)]
theorem posG_spec (lt : α → α → Bool) (x : α) (out : List α) (k : Nat) : (∀ i, posG lt x out k ≤ i → i < k → lt x (nth out i) = true) ∧ (0 < posG lt x out k → lt x (nth out (posG lt x out k - 1)) = false) := by
  induction k with
  | zero => simp only [posG]; exact ⟨fun i h1 h2 => by omega, fun h => by omega⟩
  | succ k ih =>
    simp only [posG]
    split
    · rename_i h
      refine ⟨fun i h1 h2 => ?_, ih.2⟩
      rcases Nat.lt_or_ge i k with h3 | h3
      · exact ih.1 i h1 h3
      · rw [show i = k by omega]; exact h
    · rename_i h
      exact ⟨fun i h1 h2 => by omega, fun _ => by simpa using h⟩
theorem insG_perm (lt : α → α → Bool) (out : List α) (x : α) : List.Perm (insG lt out x) (x :: out) := by
  unfold insG
  rw [List.append_assoc, List.singleton_append]
  refine List.perm_middle.trans ?_
  rw [List.take_append_drop]
theorem insG_len (lt : α → α → Bool) (out : List α) (x : α) : (insG lt out x).length = out.length + 1 := by
  rw [(insG_perm lt out x).length_eq]; rfl
/-- A strict weak order. -/
structure Weak (lt : α → α → Bool) : Prop where
  asymm : ∀ a b, lt a b = true → lt b a = false
  trans : ∀ a b c, lt b a = false → lt c b = false → lt c a = false
abbrev Srt (lt : α → α → Bool) (l : List α) : Prop := List.Pairwise (fun a b => lt b a = false) l
theorem insG_sorted {lt : α → α → Bool} (W : Weak lt) {out : List α} (h : Srt lt out) (x : α) : Srt lt (insG lt out x) := by
  obtain ⟨h1, h2⟩ := posG_spec lt x out out.length
  have hp := posG_le lt x out out.length
  generalize hpe : posG lt x out out.length = p at *
  have hs := pw_nth.1 h
  unfold insG
  rw [hpe, List.append_assoc, List.singleton_append]
  refine List.pairwise_append.2 ⟨h.sublist (List.take_sublist _ _), List.pairwise_cons.2 ⟨fun y hy => ?_, h.sublist (List.drop_sublist _ _)⟩, fun a ha y hy => ?_⟩
  · obtain ⟨i, hi, rfl⟩ := mem_nth hy
    simp only [List.length_drop] at hi
    rw [nth_drop]
    exact W.asymm _ _ (h1 (p + i) (by omega) (by omega))
  · have hxp : lt x a = false := by
      obtain ⟨i, hi, rfl⟩ := mem_nth ha
      simp only [List.length_take] at hi
      rw [nth_take (by omega)]
      have h3 := h2 (by omega)
      rcases Nat.lt_or_ge i (p - 1) with h4 | h4
      · exact W.trans _ _ _ (hs i (p - 1) h4 (by omega)) h3
      · rw [show i = p - 1 by omega]; exact h3
    rcases List.mem_cons.1 hy with rfl | hy
    · exact hxp
    · obtain ⟨i, hi, rfl⟩ := mem_nth ha
      obtain ⟨j, hj, rfl⟩ := mem_nth hy
      simp only [List.length_take] at hi
      simp only [List.length_drop] at hj
      rw [nth_take (by omega), nth_drop]
      exact hs i (p + j) (by omega) (by omega)
def sortG (lt : α → α → Bool) (l : List α) : List α := l.foldl (insG lt) []
theorem foldG (lt : α → α → Bool) (l : List α) : ∀ (out : List α), List.Perm (l.foldl (insG lt) out) (out ++ l) := by
  induction l with
  | nil => intro out; simp
  | cons x l ih =>
    intro out
    exact (ih (insG lt out x)).trans (((insG_perm lt out x).append_right l).trans (by simpa using List.perm_middle.symm))
theorem foldG_sorted {lt : α → α → Bool} (W : Weak lt) (l : List α) : ∀ (out : List α), Srt lt out → Srt lt (l.foldl (insG lt) out) := by
  induction l with
  | nil => intro out h; exact h
  | cons x l ih => intro out h; exact ih _ (insG_sorted W h x)
theorem sortG_perm (lt : α → α → Bool) (l : List α) : List.Perm (sortG lt l) l := foldG lt l []
theorem sortG_sorted {lt : α → α → Bool} (W : Weak lt) (l : List α) : Srt lt (sortG lt l) := foldG_sorted W l [] List.Pairwise.nil
theorem insG_congr {lt lt' : α → α → Bool} {out : List α} {x : α} (h : ∀ y ∈ out, lt x y = lt' x y) : insG lt out x = insG lt' out x := by
  have : ∀ k, k ≤ out.length → posG lt x out k = posG lt' x out k := by
    intro k
    induction k with
    | zero => intro _; rfl
    | succ k ih => intro hk; simp only [posG]; rw [h _ (nth_mem (by omega)), ih (by omega)]
  unfold insG
  rw [this _ (Nat.le_refl _)]

/-- A step of the sort in place is an insertion. -/
theorem sink_ins (cmp : α → α → Int) (j : Nat) : ∀ (l : List α), j < l.length → sink cmp 0 j l = insG (fun a b => decide (cmp a b < 0)) (l.take j) (nth l j) ++ l.drop (j + 1) := by
  induction j with
  | zero =>
    intro l h
    simp only [sink]
    have hd : l = nth l 0 :: l.drop 1 := by
      have := drop_nth (l := l) (i := 0) h
      simpa using this
    conv => lhs; rw [hd]
    simp [insG, posG]
  | succ j ih =>
    intro l h
    simp only [sink]
    have h0 : decide (((j + 1 : Nat) : Int) > ((0 : Nat) : Int)) = true := decide_eq_true (by omega)
    rw [if_pos h0]
    have htk : l.take (j + 1) = l.take j ++ [nth l j] := by
      rw [List.take_add_one]
      congr 1
      rw [nth_get (by omega)]
      rfl
    have hdj : l.drop (j + 1) = nth l (j + 1) :: l.drop (j + 2) := drop_nth h
    have hlen : (l.take j).length = j := by simp; omega
    by_cases hc : decide (cmp (nth l (j + 1)) (nth l j) < 0) = true
    · rw [if_pos hc]
      rw [ih _ (by simp; omega)]
      have e1 : ((l.set (j + 1) (nth l j)).set j (nth l (j + 1))).take j = l.take j := by
        rw [List.take_set_of_le (by omega), List.take_set_of_le (by omega)]
      have e2 : nth ((l.set (j + 1) (nth l j)).set j (nth l (j + 1))) j = nth l (j + 1) := by
        unfold nth
        rw [List.getD_eq_getElem?_getD, List.getElem?_set_self (by simp; omega)]; rfl
      have e3 : ((l.set (j + 1) (nth l j)).set j (nth l (j + 1))).drop (j + 1) = nth l j :: l.drop (j + 2) := by
        rw [List.drop_set_of_lt (by omega), drop_nth (by simp; omega)]
        congr 1
        · unfold nth
          rw [List.getD_eq_getElem?_getD, List.getElem?_set_self (by omega)]; rfl
        · rw [List.drop_set_of_lt (by omega)]
      rw [e1, e2, e3]
      have hpos : posG (fun a b => decide (cmp a b < 0)) (nth l (j + 1)) (l.take (j + 1)) (l.take (j + 1)).length = posG (fun a b => decide (cmp a b < 0)) (nth l (j + 1)) (l.take j) j := by
        rw [show (l.take (j + 1)).length = j + 1 by rw [List.length_take]; omega]
        simp only [posG]
        rw [nth_take (by omega), if_pos hc]
        exact posG_congr _ _ _ fun i hi => by rw [nth_take (by omega), nth_take hi]
      have hle := posG_le (fun a b => decide (cmp a b < 0)) (nth l (j + 1)) (l.take j) j
      unfold insG
      rw [hpos, hlen]
      generalize posG (fun a b => decide (cmp a b < 0)) (nth l (j + 1)) (l.take j) j = p at *
      rw [htk, List.take_append_of_le_length (by omega), List.drop_append_of_le_length (by omega)]
      simp
    · rw [if_neg hc]
      have hpos : posG (fun a b => decide (cmp a b < 0)) (nth l (j + 1)) (l.take (j + 1)) (l.take (j + 1)).length = j + 1 := by
        rw [show (l.take (j + 1)).length = j + 1 by rw [List.length_take]; omega]
        simp only [posG]
        rw [nth_take (by omega), if_neg hc]
      unfold insG
      rw [hpos]
      rw [List.take_of_length_le (l := l.take (j + 1)) (by simp; omega), List.drop_of_length_le (l := l.take (j + 1)) (by simp; omega), List.append_nil, List.append_assoc, List.singleton_append, ← hdj, List.take_append_drop]
theorem insSort_fold (cmp : α → α → Int) (rest : List α) : ∀ (S : List α), insSort cmp 0 rest.length S.length (S ++ rest) = rest.foldl (insG fun a b => decide (cmp a b < 0)) S := by
  induction rest with
  | nil => intro S; simp [insSort]
  | cons x rest ih =>
    intro S
    simp only [List.length_cons, insSort, List.foldl_cons]
    rw [sink_ins cmp S.length _ (by simp)]
    have e1 : (S ++ x :: rest).take S.length = S := by simp
    have e3 : (S ++ x :: rest).drop (S.length + 1) = rest := by
      rw [List.drop_append]
      simp
    rw [e1, nth_append_len, e3]
    have := ih (insG (fun a b => decide (cmp a b < 0)) S x)
    rwa [insG_len] at this
theorem insSort_sortG (cmp : α → α → Int) (l : List α) : insSort cmp 0 (l.length - 1) 1 l = sortG (fun a b => decide (cmp a b < 0)) l := by
  cases l with
  | nil => rfl
  | cons x l =>
    have := insSort_fold cmp l [x]
    simpa [sortG, insG, posG] using this

/-- Sorted rows of the same things, of which no two are alike, are one. -/
theorem sorted_unique {lt : α → α → Bool} : ∀ (l m : List α), Srt lt l → Srt lt m → List.Perm l m → (∀ a ∈ l, ∀ b ∈ l, lt a b = false → lt b a = false → a = b) → l = m
  | [], m, _, _, h, _ => by simpa using h.symm
  | a :: l, [], _, _, h, _ => by simp at h
  | a :: l, b :: m, hl, hm, h, ht => by
    have hl' := List.pairwise_cons.1 hl
    have hm' := List.pairwise_cons.1 hm
    have e : a = b := by
      have hb : b ∈ a :: l := h.mem_iff.2 (by simp)
      have ha : a ∈ b :: m := h.mem_iff.1 (by simp)
      rcases List.mem_cons.1 hb with h1 | h1
      · exact h1.symm
      · rcases List.mem_cons.1 ha with h2 | h2
        · exact h2
        · exact ht a (by simp) b (by simp [h1]) (hm'.1 a h2) (hl'.1 b h1)
    subst e
    rw [sorted_unique l m hl'.2 hm'.2 ((List.perm_cons a).1 h) fun x hx y hy => ht x (by simp [hx]) y (by simp [hy])]
end
end Go.Proofs.Ytpkgpldgoajphaa.AM

set_option linter.unusedVariables false
set_option linter.unusedSimpArgs false
set_option maxRecDepth 100000
namespace Go.Proofs.Ytpkgpldgoajphaa.AM
open Go
attribute [local irreducible] Tp.card Tp.cardT Tp.next Tp.step Tp.cards Tp.cardsT Tp.key Tp.keyT

abbrev ltD (a b : Card) : Bool := decide (cmpK a.key b.key < 0)
theorem ltD_before (a b : Card) : ltD a b = beforeK a.key b.key := less_before a.key b.key
abbrev StrictD (l : List Card) : Prop := List.Pairwise StC l
theorem weakD : Weak ltD := ⟨fun a b h => by rw [ltD_before] at h ⊢; exact bk_asymm h, fun a b c h k => by rw [ltD_before] at h k ⊢; exact bk_le_trans h k⟩
theorem StrictD.inj {l : List Card} (h : StrictD l) {a b : Card} (ha : a ∈ l) (hb : b ∈ l) (e : a.key = b.key) : a = b := by
  obtain ⟨i, hi, rfl⟩ := mem_nth ha
  obtain ⟨j, hj, rfl⟩ := mem_nth hb
  have hp := pw_nth.1 h
  rcases Nat.lt_trichotomy i j with h1 | h1 | h1
  · exact absurd e (bk_ne (hp i j h1 hj))
  · rw [h1]
  · exact absurd e.symm (bk_ne (hp j i h1 hi))
theorem sortP_sortD (l : List Card) : sortP l = sortG ltD l := insSort_sortG _ l
theorem sortP_strictD {l : List Card} (h : StrictD l) : sortP l = l := by
  rw [sortP_sortD]
  refine sorted_unique (lt := ltD) _ _ (sortG_sorted weakD l) (h.imp fun {a b} hab => ?_) (sortG_perm _ l) fun a ha b hb h1 h2 => ?_
  · rw [ltD_before]; exact bk_asymm hab
  · rw [ltD_before] at h1 h2
    exact h.inj ((sortG_perm _ l).mem_iff.1 ha) ((sortG_perm _ l).mem_iff.1 hb) (bk_tri h1 h2)
theorem seenK_strict {l : List Card} (h : StrictD l) : seenK l = hereL l := by
  unfold seenK
  exact sortP_strictD (h.sublist List.filter_sublist)
theorem cardB_app (b : List Int) (c : Card) : cardB b c = b ++ cardB [] c := by
  simp [cardB, intB, byteB, textB, List.append_assoc]
theorem foldB (l : List Card) : ∀ (b : List Int), l.foldl cardB b = b ++ l.flatMap (cardB []) := by
  induction l with
  | nil => intro b; simp
  | cons c l ih => intro b; rw [List.foldl_cons, ih, cardB_app]; simp
theorem sealB_flat (l : List Card) : sealB l = (seenK l).flatMap (cardB []) := by unfold sealB; rw [foldB]; simp
theorem one_strictD (a : Card) : StrictD [a] := List.pairwise_singleton _ _
theorem sealB_one (c : Card) : sealB [c] = if c.gone = true then [] else cardB [] c := by
  rw [sealB_flat, seenK_strict (one_strictD c)]
  cases h : c.gone <;> simp [hereL, List.filter_cons, h]
theorem sealB_strict {l : List Card} (h : StrictD l) : sealB l = l.flatMap (fun c => sealB [c]) := by
  rw [sealB_flat, seenK_strict h]
  clear h
  induction l with
  | nil => rfl
  | cons c l ih =>
    rw [List.flatMap_cons, ← ih, sealB_one]
    cases hg : c.gone <;> simp [hereL, List.filter_cons, hg]
theorem cardB_pos (c : Card) : 0 < (cardB [] c).length := by
  unfold cardB; rw [intB_len]; omega
theorem take_drop_one {α : Type} [Inhabited α] {l : List α} {i : Nat} (h : i < l.length) : (l.take (i + 1)).drop i = [nth l i] := by
  rw [List.drop_take, drop_nth h, show i + 1 - i = 1 by omega]; simp
theorem ba_ext {a b : ByteArray} (h : a.data = b.data) : a = b := by cases a; cases b; simpa using h
theorem bstr_app (a b : List Int) : bstr (a ++ b) = bstr a ++ bstr b := by
  apply ba_ext
  rw [ByteArray.data_append]
  simp [bstr]
theorem bstr_flat (l : List Card) : ∀ (s : ByteArray) (n : Nat),
    l.foldl (fun (s : ByteArray × Nat) c => (s.1 ++ bstr (sealB [c]), if (!c.gone) = true then s.2 + 1 else s.2)) (s, n) = (s ++ bstr (l.flatMap fun c => sealB [c]), n + (hereL l).length) := by
  induction l with
  | nil => intro s n; simp only [List.foldl_nil, List.flatMap_nil, hereL, List.filter_nil, List.length_nil, Nat.add_zero]; congr 1; apply ba_ext; rw [ByteArray.data_append]; simp [bstr]
  | cons c l ih =>
    intro s n
    rw [List.foldl_cons, ih, List.flatMap_cons, bstr_app]
    congr 1
    · apply ba_ext; simp only [ByteArray.data_append, Array.append_assoc]
    · cases hg : c.gone <;> simp [hereL, List.filter_cons, hg]; omega
theorem sparts_true (tape : List Int) (hl : tape.length < 9223372036854775808) : ACalls Try.prog 14 [AV.sl .any 1 (List.map rI64 tape)] [] (AV.bool true, []) := by
  have key : ∀ A : List Card, StrictD A → (∀ (i : Nat), i < A.length → ¬ sparts_bad A (iter (sparts_f A) i 0 (⟨#[]⟩, 0)).1 (iter (sparts_f A) i 0 (⟨#[]⟩, 0)).2 i) ∧ bstr (sealB A) = (iter (sparts_f A) A.length 0 (⟨#[]⟩, 0)).1 ∧ (seenK A).length = (iter (sparts_f A) A.length 0 (⟨#[]⟩, 0)).2 := by
    intro A hA
    have hf : iter (sparts_f A) A.length 0 (⟨#[]⟩, 0) = ((⟨#[]⟩ : ByteArray) ++ bstr (A.flatMap fun c => sealB [c]), 0 + (hereL A).length) := by
      rw [iter_all (sparts_f A) (fun s c => (s.1 ++ bstr (sealB [c]), if (!c.gone) = true then s.2 + 1 else s.2)) A (fun i s hi => ?_), bstr_flat]
      simp only [sparts_f, take_drop_one hi]
      split <;> rfl
    refine ⟨fun i hi hb => ?_, ?_, ?_⟩
    · have h2 := hb.2
      rw [take_drop_one hi, sealB_one] at h2
      have hp := cardB_pos (nth A i)
      cases hg : (nth A i).gone
      · rw [hg] at h2
        have : ((((cardB [] (nth A i)).length : Nat) : Int) == 0) = false := by simp; exact List.ne_nil_of_length_pos hp
        simp only [Bool.false_eq_true, if_false, this] at h2
        simp at h2
      · rw [hg] at h2; simp at h2
    · rw [hf, sealB_strict hA]; apply ba_ext; rw [ByteArray.data_append]; simp
    · rw [hf, seenK_strict hA]; simp
  obtain ⟨h1, h2, h3⟩ := key _ (onceK_sorted (tC' ⟨tape, 0⟩ 12))
  exact sparts_spec tape hl h1 h2 h3
end Go.Proofs.Ytpkgpldgoajphaa.AM

set_option linter.unusedVariables false
set_option linter.unusedSimpArgs false
set_option maxRecDepth 100000
namespace Go.Proofs.Ytpkgpldgoajphaa.AM
open Go
attribute [local irreducible] Tp.card Tp.cardT Tp.next Tp.step Tp.cards Tp.cardsT Tp.key Tp.keyT

def setS (s : Stamp) (c : Card) : Card := ⟨c.key, c.status, c.over, c.lease, s, c.gone⟩
def goneC : Card := ⟨⟨⟨#[103, 111, 110, 101]⟩, ⟨#[103, 111, 110, 101]⟩⟩, 0, 0, 0, ⟨0, 0, 0⟩, true⟩
def backS (c : List Card) (s : Stamp) : List Card := (c.map (setS s)).reverse
theorem hereL_back (c : List Card) (s : Stamp) : hereL (backS c s ++ [goneC]) = ((hereL c).map (setS s)).reverse := by
  unfold hereL backS
  rw [List.filter_append, List.filter_reverse, List.filter_map]
  have h1 : List.filter (fun c : Card => !c.gone) [goneC] = [] := rfl
  have h2 : ((fun c : Card => !c.gone) ∘ setS s) = fun c : Card => !c.gone := rfl
  rw [h1, h2, List.append_nil]
theorem seenK_back {c : List Card} (h : StrictD c) (s : Stamp) : seenK (backS c s ++ [goneC]) = (hereL c).map (setS s) := by
  have hY : StrictD ((hereL c).map (setS s)) := List.pairwise_map.2 ((h.sublist List.filter_sublist).imp fun {a b} hab => hab)
  unfold seenK
  rw [hereL_back, sortP_sortD]
  have hp : List.Perm (sortG ltD ((hereL c).map (setS s)).reverse) ((hereL c).map (setS s)) := (sortG_perm _ _).trans (List.reverse_perm _)
  refine sorted_unique (lt := ltD) _ _ (sortG_sorted weakD _) (hY.imp fun {a b} hab => ?_) hp fun a ha b hb h1 h2 => ?_
  · rw [ltD_before]; exact bk_asymm hab
  · rw [ltD_before] at h1 h2
    exact hY.inj (hp.mem_iff.1 ha) (hp.mem_iff.1 hb) (bk_tri h1 h2)
theorem sealB_back {c : List Card} (h : StrictD c) (s : Stamp) : sealB (backS c s ++ [goneC]) = sealB c := by
  rw [sealB_flat, sealB_flat, seenK_back h, seenK_strict h, List.flatMap_map]
  rfl
theorem ofB_back {c : List Card} (h : StrictD c) (s : Stamp) : ofB (backS c s ++ [goneC]) = ofB c := by unfold ofB; rw [sealB_back h]
theorem clashB_back {c : List Card} (h : StrictD c) (s : Stamp) : clashB c (backS c s ++ [goneC]) = false := by unfold clashB; rw [sealB_back h]; simp
theorem ofB_none {c : List Card} (h : (seenK c).length = 0) : ofB c = 17 := by
  have : seenK c = [] := List.eq_nil_of_length_eq_zero h
  unfold ofB; rw [sealB_flat, this]; rfl
/-! ### another status -/
theorem u32_wrap (n : Int) : IntKind.u32.wrap n = n % 4294967296 := by simp [IntKind.wrap, IntKind.signed, IntKind.bits]
theorem sumStep_eq (h x : Int) : sumStep h x = (h * 31 + x + 7) % 4294967296 := by
  unfold sumStep; simp only [u32_wrap]; omega
theorem sumStep_inj {h h' x : Int} (h1 : 0 ≤ h ∧ h < 4294967296) (h2 : 0 ≤ h' ∧ h' < 4294967296) (e : sumStep h x = sumStep h' x) : h = h' := by
  rw [sumStep_eq, sumStep_eq] at e; omega
theorem sumStep_ne {h x y : Int} (h1 : 0 ≤ x ∧ x < 256) (h2 : 0 ≤ y ∧ y < 256) (e : sumStep h x = sumStep h y) : x = y := by
  rw [sumStep_eq, sumStep_eq] at e; omega
theorem sumStep_ok (h x : Int) : 0 ≤ sumStep h x ∧ sumStep h x < 4294967296 := by rw [sumStep_eq]; omega
theorem fold_inj : ∀ (l : List Int) (h h' : Int), (0 ≤ h ∧ h < 4294967296) → (0 ≤ h' ∧ h' < 4294967296) → l.foldl sumStep h = l.foldl sumStep h' → h = h'
  | [], h, h', _, _, e => e
  | x :: l, h, h', h1, h2, e => sumStep_inj h1 h2 (fold_inj l _ _ (sumStep_ok _ _) (sumStep_ok _ _) e)
theorem sumB_diff {A B : List Int} {x y : Int} (h1 : 0 ≤ x ∧ x < 256) (h2 : 0 ≤ y ∧ y < 256) (e : sumB (A ++ x :: B) = sumB (A ++ y :: B)) : x = y := by
  unfold sumB at e
  rw [List.foldl_append, List.foldl_append, List.foldl_cons, List.foldl_cons] at e
  exact sumStep_ne h1 h2 (fold_inj B _ _ (sumStep_ok _ _) (sumStep_ok _ _) e)
theorem u8_okY (n : Int) : 0 ≤ IntKind.u8.wrap n ∧ IntKind.u8.wrap n < 256 := by
  have : IntKind.u8.wrap n = n % 256 := by simp [IntKind.wrap, IntKind.signed, IntKind.bits]
  omega
def setO (x : Card) (o : Int) : Card := ⟨x.key, x.status, o, x.lease, x.stamp, x.gone⟩
theorem cardB_parts (x : Card) : ∃ A B : List Int, ∀ o, cardB [] (setO x o) = A ++ IntKind.u8.wrap (showsC (setO x o)) :: B := by
  refine ⟨textB (textB [] x.key.app) x.key.id, [byteAt x.lease 7, byteAt x.lease 6, byteAt x.lease 5, byteAt x.lease 4, byteAt x.lease 3, byteAt x.lease 2, byteAt x.lease 1, byteAt x.lease 0], fun o => ?_⟩
  simp [cardB, intB, byteB, setO, List.append_assoc]
theorem setO_self (x : Card) : setO x x.over = x := rfl
theorem set_parts {α : Type} [Inhabited α] {l : List α} {k : Nat} (hk : k < l.length) (y : α) : l.set k y = l.take k ++ y :: l.drop (k + 1) ∧ l = l.take k ++ nth l k :: l.drop (k + 1) := by
  refine ⟨List.set_eq_take_append_cons_drop .. |>.trans (by rw [if_pos hk]), ?_⟩
  rw [← drop_nth hk, List.take_append_drop]
theorem ofB_diff {c : List Card} (h : StrictD c) {k : Nat} (hk : k < (seenK c).length) {o : Int} (ho : IntKind.u8.wrap (showsC (setO (nth (seenK c) k) o)) ≠ IntKind.u8.wrap (showsC (nth (seenK c) k))) : ofB ((seenK c).set k (setO (nth (seenK c) k) o)) ≠ ofB c := by
  have hs := seenK_strict h
  have hL : StrictD (seenK c) := by rw [hs]; exact h.sublist List.filter_sublist
  have hg : ∀ x ∈ seenK c, x.gone = false := fun x hx => by
    rw [hs] at hx
    have := (List.mem_filter.1 hx).2
    simpa using this
  have hx := hg _ (nth_mem hk)
  generalize hx0 : nth (seenK c) k = x at ho hx ⊢
  obtain ⟨e1, e2⟩ := set_parts hk (setO x o)
  rw [hx0] at e2
  have hset : StrictD ((seenK c).set k (setO x o)) := by
    rw [e1]
    rw [e2] at hL
    have h1 := List.pairwise_append.1 hL
    have h2 := List.pairwise_cons.1 h1.2.1
    refine List.pairwise_append.2 ⟨h1.1, List.pairwise_cons.2 ⟨fun b hb => h2.1 b hb, h2.2⟩, fun a ha b hb => ?_⟩
    rcases List.mem_cons.1 hb with rfl | hb
    · exact h1.2.2 a ha x (by simp)
    · exact h1.2.2 a ha b (by simp [hb])
  have hhere : hereL ((seenK c).set k (setO x o)) = (seenK c).set k (setO x o) := by
    unfold hereL
    rw [List.filter_eq_self]
    intro a ha
    rw [e1] at ha
    rcases List.mem_append.1 ha with ha | ha
    · rw [hg a (List.mem_of_mem_take ha)]; rfl
    · rcases List.mem_cons.1 ha with rfl | ha
      · show (!x.gone) = true; rw [hx]; rfl
      · rw [hg a (List.mem_of_mem_drop ha)]; rfl
  intro e
  unfold ofB at e
  rw [sealB_flat, sealB_flat, seenK_strict hset, hhere, e1] at e
  conv at e => rhs; rw [e2]
  rw [List.flatMap_append, List.flatMap_append, List.flatMap_cons, List.flatMap_cons] at e
  obtain ⟨A, B, hAB⟩ := cardB_parts x
  have hx1 := hAB x.over
  rw [setO_self] at hx1
  rw [hAB o, hx1] at e
  have key : ∀ (P Q : List Int) z, P ++ ((A ++ z :: B) ++ Q) = (P ++ A) ++ z :: (B ++ Q) := fun P Q z => by simp
  rw [key, key] at e
  exact ho (sumB_diff (u8_okY _) (u8_okY _) e)
theorem seen_mem {c : List Card} {x : Card} (h : StrictD c) (hx : x ∈ seenK c) : x ∈ c ∧ x.gone = false := by
  rw [seenK_strict h] at hx
  have := List.mem_filter.1 hx
  exact ⟨this.1, by simpa using this.2⟩
theorem tcard_shows (t : Tp) : 0 ≤ showsC t.card ∧ showsC t.card < 100 := by
  have h1 := t.c1.next_lt 7 (by omega)
  have h2 := t.keyT.next_lt 2 (by omega)
  unfold showsC Tp.card
  simp only
  split
  · omega
  · split
    · omega
    · omega
theorem shows_new {x : Card} (hg : x.gone = false) (hs : 0 ≤ showsC x ∧ showsC x < 100) : IntKind.u8.wrap (showsC (setO x (IntKind.i64.wrap (1 + Int.tmod (showsC x) 3)))) ≠ IntKind.u8.wrap (showsC x) := by
  have h1 : Int.tmod (showsC x) 3 = showsC x % 3 := Int.tmod_eq_emod_of_nonneg hs.1
  rw [h1]
  generalize showsC x = s at hs ⊢
  have h2 : IntKind.i64.wrap (1 + s % 3) = 1 + s % 3 := by rw [IntKind.wrap_i64]; omega
  rw [h2]
  have h3 : showsC (setO x (1 + s % 3)) = 1 + s % 3 := by
    unfold showsC setO
    simp only [hg, Bool.false_eq_true, if_false]
    rw [if_pos]
    simp; omega
  rw [h3]
  have h4 : ∀ n : Int, IntKind.u8.wrap n = n % 256 := fun n => by simp [IntKind.wrap, IntKind.signed, IntKind.bits]
  rw [h4, h4]; omega
end Go.Proofs.Ytpkgpldgoajphaa.AM

set_option linter.unusedVariables false
set_option linter.unusedSimpArgs false
namespace Go.Proofs.Ytpkgpldgoajphaa.AM
open Go

theorem osl_alive {G : Nat → Prop} {w : World} {C : Cx} {id g k e n : Nat} {v : Value} (h : VR G w C (.osl id g k e n) v) (hg : g = C.γ id) : ∃ l, C.ι id = some l ∧ l.k = k := by
  cases h with
  | osl _ _ _ _ _ _ ad cap hnc hle h => obtain ⟨l, b, h1, _, h2, _⟩ := h hg; exact ⟨l, h1, h2⟩
  | osl0 _ _ _ _ _ base hle h => obtain ⟨l, h1, _, h2⟩ := h hg; exact ⟨l, h1, h2⟩
theorem HR.set_ob {G : Nat → Prop} {w : World} {C : Cx} {H : Heap} (hH : HR G w C H) {id : Nat} {o o' : Ob} (ho : H[id]? = some o) (hg : o'.gen = o.gen) (hob : ∀ l, C.ι id = some l → ObR G w C o l → ObR G w C o' l) : HR G w C (H.set id o') := by
  have hlt : id < H.length := by
    rcases Nat.lt_or_ge id H.length with h' | h'
    · exact h'
    · rw [List.getElem?_eq_none h'] at ho; simp at ho
  refine ⟨fun j oj hj => ?_, fun j hj => hH.out j (by simpa using hj), hH.own, hH.inj, fun j oj l hj hl => ?_, hH.gsz⟩
  · by_cases hji : id = j
    · subst hji
      rw [List.getElem?_set_self hlt] at hj
      obtain rfl : o' = oj := by simpa using hj
      rw [hg]; exact hH.gen id o ho
    · rw [List.getElem?_set_ne hji] at hj
      exact hH.gen j oj hj
  · by_cases hji : id = j
    · subst hji
      rw [List.getElem?_set_self hlt] at hj
      obtain rfl : o' = oj := by simpa using hj
      exact hob l hl (hH.ob id o l ho hl)
    · rw [List.getElem?_set_ne hji] at hj
      exact hH.ob j oj l hj hl
/-- How many rows there is place for is a number: it may be given a name. -/
theorem ACalls.room {P : Program} {f : FuncId} {args : List AV} {H : Heap} {r : AV × Heap} {id i g k e n : Nat} {els : List (List AV)} (ho : H[id]? = some ⟨g, k, els, none⟩) (hi : args[i]? = some (.osl id g k e n))
    (h : ∀ rm, els.length ≤ rm → ACalls P f args (H.set id ⟨g, k, els, some rm⟩) r) : ACalls P f args H r := by
  intro G w C vs hsz hargs hH
  have hlt : i < args.length := by
    rcases Nat.lt_or_ge i args.length with h' | h'
    · exact h'
    · rw [List.getElem?_eq_none h'] at hi; simp at hi
  have hv := hargs i hlt
  rw [List.getD_eq_getElem?_getD, hi] at hv
  have hgen := hH.gen id _ ho
  obtain ⟨l, hl, _⟩ := osl_alive hv hgen
  have hob := hH.ob id _ l ho hl
  have hH2 : HR G w C (H.set id ⟨g, k, els, some l.room⟩) := hH.set_ob ho rfl fun l' hl' hx => by
    obtain rfl : l = l' := by rw [hl] at hl'; simpa using hl'
    exact ⟨hx.k, fun r hr => by simpa using hr, hx.no, hx.len, hx.row, hx.cells⟩
  refine (h l.room hob.len G w C vs hsz hargs hH2).mono fun v w' ⟨G', C', he, hh, hv', hp⟩ => ⟨G', C', he, hh, hv', by simpa using hp.1, fun j hj hs hι => ?_⟩
  obtain ⟨h1, h2, h3⟩ := hp.2 j (by simpa using hj) hs hι
  have hne : id ≠ j := fun e => by subst e; rw [hl] at hι; simp at hι
  rw [List.getElem?_set_ne hne] at h3
  exact ⟨h1, h2, h3⟩
/-- Rows behind number m are forgotten, and the room. -/
theorem ACalls.shrink {P : Program} {f : FuncId} {args : List AV} {H H1 : Heap} {id g k e n m : Nat} {els : List (List AV)} {room : Option Nat} (h : ACalls P f args H (.osl id g k e n, H1)) (ho : H1[id]? = some ⟨g, k, els, room⟩) :
    ACalls P f args H (.osl id g k e n, H1.set id ⟨g, k, els.take m, none⟩) := by
  intro G w C vs hsz hargs hH
  refine (h G w C vs hsz hargs hH).mono fun v w' ⟨G', C', he, hh, hv, hp⟩ => ?_
  obtain ⟨l, hl, _⟩ := osl_alive hv (hh.gen id _ ho)
  have hget : ∀ i, i < (els.take m).length → (els.take m).getD i [] = els.getD i [] := fun i hi => by
    simp only [List.length_take] at hi
    rw [List.getD_eq_getElem?_getD, List.getD_eq_getElem?_getD, List.getElem?_take_of_lt (by omega)]
  have hlen : (els.take m).length ≤ els.length := by simp; omega
  refine ⟨G', C', he, hh.set_ob ho rfl fun l' hl' hx => ?_, hv, by simpa using hp.1, fun j hj hs hι => ?_⟩
  · refine ⟨hx.k, fun r hr => by simp at hr, hx.no, Nat.le_trans hlen hx.len, fun i hi => by rw [hget i hi]; exact hx.row i (by simp only at hi ⊢; omega), fun b hb => ?_⟩
    obtain ⟨cs, t, h1, h2, h3⟩ := hx.cells b hb
    exact ⟨cs, t, h1, h2, fun i j hi hj => by rw [hget i hi]; exact h3 i j (by simp only at hi ⊢; omega) hj⟩
  · obtain ⟨h1, h2, h3⟩ := hp.2 j hj hs hι
    have hne : id ≠ j := fun e => by subst e; rw [hl] at h1; simp at h1
    exact ⟨h1, h2, by rw [List.getElem?_set_ne hne]; exact h3⟩
end Go.Proofs.Ytpkgpldgoajphaa.AM

set_option linter.unusedVariables false
set_option linter.unusedSimpArgs false
namespace Go.Proofs.Ytpkgpldgoajphaa.AM
open Go

theorem ssem_cap {P : Program} {F : Fr} {H : Heap} {dst : Option Tmp} {x : Operand} {t e0 : TypeId} {type : TypeId} {pos : String} {after : Array Edge} {guard : Option (Nat × Bool)} {id g k e n r : Nat} {els : List (List AV)}
    (ht : P.underlying t = some (.slice e0)) (hx : opv F x = some (.osl id g k e n)) (ho : H[id]? = some ⟨g, k, els, some r⟩) :
    SSem P F H ⟨dst, .call { callee := .builtin .cap, args := #[x], argTypes := #[t] }, type, pos, after, guard⟩ (.int .i64 ((r - e : Nat) : Int), H) := by
  intro G w C f hf hH
  have hv := hf x (by simp [Op.operands, Call.operands]) _ hx
  have hgen : g = C.γ id := hH.gen id _ ho
  have key : ∀ c : Nat, c = r - e → ∀ base m, f x = .slice base m c → ∃ v w', (execOp f (⟨dst, .call { callee := .builtin .cap, args := #[x], argTypes := #[t] }, type, pos, after, guard⟩ : Oper)).run P w = .ok (.value v) w' ∧ After G w C H (.int .i64 ((r - e : Nat) : Int), H) v w' := by
    intro c hc base m hfx
    have hr : (Builtin.cap_ #[t] type #[f x]).run P w = .ok (.int .i64 ((r - e : Nat) : Int)) w := by
      rw [hfx, ← hc]; simp [Builtin.cap_, run_underlying ht, goInt]
    refine ⟨_, w, ?_, G, C, Ev.refl .., hH, .int .., Pd.refl⟩
    simp [execOp, resolve, invoke, builtin, hr]
  generalize hu : f x = u at hv
  cases hv with
  | osl _ _ _ _ _ _ ad cap hnc hle h =>
    obtain ⟨l, b, h1, h2, h3, h4, h5, _⟩ := h hgen
    have := (hH.ob id _ l ho h1).rm r rfl
    exact key cap (by omega) _ _ hu
  | osl0 _ _ _ _ _ base hle h =>
    obtain ⟨l, h1, h2, h3⟩ := h hgen
    have hob := hH.ob id _ l ho h1
    have h4 := hob.no h2
    have h5 := hob.rm r rfl
    exact key 0 (by omega) _ _ hu
theorem optInt_f {G : Nat → Prop} {w : World} {C : Cx} {F : Fr} {o : Option Operand} {d n : Int} {f : Operand → Value} (h : optInt F o d = some n) (hf : ∀ x, o = some x → ∀ a, opv F x = some a → VR G w C a (f x)) : (o = none ∧ n = d) ∨ ∃ x k, o = some x ∧ f x = .int k n := by
  cases o with
  | none => simp [optInt] at h; exact .inl ⟨rfl, h.symm⟩
  | some x =>
    simp only [optInt] at h
    split at h
    · rename_i k m hx
      have hv := hf x rfl _ hx
      simp only [Option.some.injEq] at h
      subst h
      generalize hu : f x = u at hv
      cases hv
      exact .inr ⟨x, k, rfl, hu⟩
    · simp at h
theorem ssem_slice {P : Program} {F : Fr} {H : Heap} {dst : Option Tmp} {x y : Operand} {lo : Option Operand} {t e0 : TypeId} {type : TypeId} {pos : String} {after : Array Edge} {guard : Option (Nat × Bool)} {id g k e n r l h : Nat} {els : List (List AV)}
    (ht : P.underlying t = some (.slice e0)) (hk : ∀ w : World, (Go.sizeOf e0).run P w = .ok k w) (hx : opv F x = some (.osl id g k e n)) (ho : H[id]? = some ⟨g, k, els, some r⟩)
    (hlo : optInt F lo 0 = some (l : Int)) (hhi : optInt F (some y) 0 = some (h : Int)) (h1 : l ≤ h) (h2 : e + h ≤ r) :
    SSem P F H ⟨dst, .slice t x lo (some y) none, type, pos, after, guard⟩ (.osl id g k (e + l) (h - l), H) := by
  intro G w C f hf hH
  have hv := hf x (by simp [Op.operands]) _ hx
  have hgen : g = C.γ id := hH.gen id _ ho
  have hl := optInt_f (G := G) (w := w) (C := C) (f := f) hlo fun z hz a ha => hf z (by simp [Op.operands, hz]) a ha
  have hh := optInt_f (G := G) (w := w) (C := C) (f := f) hhi fun z hz a ha => hf z (by simp [Op.operands]; simp at hz; simp [hz]) a ha
  have hb : ∀ len cap : Nat, h ≤ cap → (Instr.sliceBounds true len cap (lo.map f) (some (f y)) none).run P w = .ok (l, h, cap) w := by
    intro len cap hc
    rcases hh with ⟨hh, _⟩ | ⟨z, kz, hz, hfz⟩
    · simp at hh
    · simp only [Option.some.injEq] at hz
      subst hz
      rcases hl with ⟨rfl, h0⟩ | ⟨z, kz', rfl, hz⟩
      · have : l = 0 := by omega
        subst this
        simp [Instr.sliceBounds, hfz, run_sliceBound, hc]
      · simp [Instr.sliceBounds, hz, hfz, run_sliceBound, hc, h1]
  generalize hu : f x = u at hv
  cases hv with
  | osl _ _ _ _ _ _ ad cap hnc hle hl' =>
    obtain ⟨L, b, hι, hLb, hLk, hen, hcap, had⟩ := hl' hgen
    have hrm := (hH.ob id _ L ho hι).rm r rfl
    have hr : (Instr.sliceAt t (f x) (lo.map f) (some (f y)) none).run P w = .ok (.slice (if cap = l then some ad else (some ad).map (·.add (l * k))) (h - l) (cap - l)) w := by
      rw [hu]
      simp only [Instr.sliceAt, Instr.slice, Sem.run_bind, run_underlying ht, Result.andThen_ok]
      rw [hb n cap (by omega)]
      simp only [Result.andThen_ok, hk w, Sem.run_pure, Sem.run_bind]
    refine ⟨.slice (if cap = l then some ad else (some ad).map (·.add (l * k))) (h - l) (cap - l), w, ?_, G, C, Ev.refl .., hH, ?_, Pd.refl⟩
    · simp only [execOp, Option.map_some, Option.map_none, Sem.run_bind, hr, Result.andThen_ok, Sem.run_pure]
    · have hif : (if cap = l then some ad else (some ad).map (·.add (l * k))) = some (if cap = l then ad else ad.add (l * k)) := by split <;> rfl
      rw [hif]
      refine .osl _ _ _ _ _ _ _ _ (by omega) hle fun hg => ?_
      refine ⟨L, b, hι, hLb, hLk, by omega, by omega, fun hlt => ?_⟩
      rw [if_neg (by omega), had (by omega), add_addr, Nat.add_assoc, ← Nat.add_mul]
  | osl0 _ _ _ _ _ base hle hl' =>
    obtain ⟨L, hι, hLb, hLk⟩ := hl' hgen
    have hob := hH.ob id _ L ho hι
    have h4 := hob.no hLb
    have h5 := hob.rm r rfl
    have hl0 : l = 0 := by omega
    have hh0 : h = 0 := by omega
    have hr : (Instr.sliceAt t (f x) (lo.map f) (some (f y)) none).run P w = .ok (.slice base 0 0) w := by
      rw [hu]
      simp only [Instr.sliceAt, Instr.slice, Sem.run_bind, run_underlying ht, Result.andThen_ok]
      rw [hb 0 0 (by omega)]
      simp [hk w, hl0, hh0]
    subst hl0; subst hh0
    refine ⟨.slice base 0 0, w, ?_, G, C, Ev.refl .., hH, .osl0 _ _ _ _ _ base hle hl', Pd.refl⟩
    simp only [execOp, Option.map_some, Option.map_none, Sem.run_bind, hr, Result.andThen_ok, Sem.run_pure]
end Go.Proofs.Ytpkgpldgoajphaa.AM

set_option linter.unusedVariables false
set_option linter.unusedSimpArgs false
namespace Go.Proofs.Ytpkgpldgoajphaa.AM
open Go

theorem place_row {xs new : List (List AV)} {q : Nat} (hq : q ≤ xs.length) (r : Nat) (hr : r < (xs.take q ++ new ++ xs.drop (q + new.length)).length) :
    if q ≤ r ∧ r < q + new.length then (xs.take q ++ new ++ xs.drop (q + new.length)).getD r [] = new.getD (r - q) [] else r < xs.length ∧ (xs.take q ++ new ++ xs.drop (q + new.length)).getD r [] = xs.getD r [] := by
  have hl : (xs.take q).length = q := by simp; omega
  simp only [List.getD_eq_getElem?_getD]
  split
  · rename_i h
    rw [List.append_assoc, List.getElem?_append_right (by omega), hl, List.getElem?_append_left (by omega)]
  · rename_i h
    simp only [List.length_append, hl, List.length_drop] at hr
    rcases Nat.lt_or_ge r q with h1 | h1
    · refine ⟨by omega, ?_⟩
      rw [List.append_assoc, List.getElem?_append_left (by omega), List.getElem?_take_of_lt h1]
    · have h2 : q + new.length ≤ r := by omega
      refine ⟨by omega, ?_⟩
      rw [List.getElem?_append_right (by simp [hl]; omega), List.getElem?_drop]
      congr 2
      simp [hl]; omega
theorem place_sound {G : Nat → Prop} {w : World} {C : Cx} {H : Heap} (hH : HR G w C H) {id : Nat} {o : Ob} {l : Loc} {bb k q : Nat} (ho : H[id]? = some o) (hι : C.ι id = some l) (hlb : l.b = some bb) (hlk : l.k = k)
    {new : List (List AV)} {nv : List Value} (hlen0 : nv.length = new.length * k) (hrow0 : ∀ i, i < new.length → (new.getD i []).length = k) (hrel0 : ∀ i j, i < new.length → j < k → (nv.getD (i * k + j) undef).oneCell' = true ∧ VR G w C ((new.getD i []).getD j .skip) (nv.getD (i * k + j) undef)) (hq : q ≤ o.els.length) (hroom : q + new.length ≤ l.room) {cur : Array Value} {et : TypeId} (hcur : w.heap[bb]? = some (.cells cur et (0, 0))) :
    Ev G w C G (w.setRow bb (cur.toList.take (l.sh + q * l.k) ++ nv ++ cur.toList.drop (l.sh + q * l.k + nv.length)).toArray) C ∧
    HR G (w.setRow bb (cur.toList.take (l.sh + q * l.k) ++ nv ++ cur.toList.drop (l.sh + q * l.k + nv.length)).toArray) C (H.set id { o with els := o.els.take q ++ new ++ o.els.drop (q + new.length) }) := by
  have hob := hH.ob id o l ho hι
  have hgγ := hH.gen id o ho
  obtain ⟨hk1, hrm1, hno1, hlen1, hrow1, hcs1⟩ := hob
  obtain ⟨cur', et', hcur', hcsz, hcell⟩ := hcs1 bb hlb
  obtain ⟨rfl, rfl⟩ : cur' = cur ∧ et' = et := by rw [hcur] at hcur'; simp at hcur'; exact ⟨hcur'.1.symm, hcur'.2.symm⟩
  have hlt : id < H.length := by
    rcases Nat.lt_or_ge id H.length with h' | h'
    · exact h'
    · rw [List.getElem?_eq_none h'] at ho; simp at ho
  have hm : (q + new.length) * l.k ≤ l.room * l.k := Nat.mul_le_mul_right _ hroom
  rw [Nat.add_mul] at hm
  have hnvl : nv.length = new.length * l.k := by rw [hlen0, hlk]
  have hev : Mv G w C G (w.setRow bb (cur'.toList.take (l.sh + q * l.k) ++ nv ++ cur'.toList.drop (l.sh + q * l.k + nv.length)).toArray) C :=
    ⟨fun _ h => h, fun b' hb' => setRow_other w _ _ _ fun e' => (hH.own id l bb hι hlb).2 (e' ▸ hb'), CxLe.refl _⟩
  refine hH.upd (G' := G) (C' := C) id { o with els := o.els.take q ++ new ++ o.els.drop (q + new.length) } rfl rfl rfl (fun j hj => ⟨rfl, rfl⟩) (Nat.le_refl _) (fun _ l2 hl2 => hl2)
    (fun j hj => List.getElem?_set_ne (Ne.symm hj)) (List.getElem?_set_self hlt) (by simp) (by omega) hgγ (fun _ h => h) (fun _ h => .inl h)
    (fun b' _ hb' => setRow_other w _ _ _ fun e' => hb' l hι (by rw [hlb, e'])) (by simp) (fun b' hb' => by simpa using hH.gsz b' hb') (fun l2 b2 hl2 hb2 => .inl ⟨l2, hl2, hb2⟩) (frozen_setRow w _ _ _ _ _ hcur) fun l2 hl2 => ?_
  obtain rfl : l = l2 := by rw [hι] at hl2; simpa using hl2
  have hlsz : (cur'.toList.take (l.sh + q * l.k) ++ nv ++ cur'.toList.drop (l.sh + q * l.k + nv.length)).length = cur'.size := by simp; omega
  have hlb' : ∀ b2, l.b = some b2 → b2 = bb := fun b2 h2 => by rw [hlb] at h2; simpa using h2.symm
  refine ⟨fun b2 hb2 => ?_, hk1, hrm1, hno1, by simp only [List.length_append, List.length_take, List.length_drop]; omega, fun r hr' => ?_, fun b2 hb2 => ?_⟩
  · rw [hlb' b2 hb2]
    exact ⟨by simpa using (hH.own id l bb hι hlb).1, (hH.own id l bb hι hlb).2, fun j hj l2 hl2 e' => hj (hH.inj _ _ _ _ bb hl2 hι e' hlb)⟩
  · have := place_row hq r hr'
    split at this
    · rw [this, hlk]; exact hrow0 _ (by omega)
    · rw [this.2]; exact hrow1 _ this.1
  · rw [hlb' b2 hb2]
    refine ⟨_, et', setRow_heap w _ _ _ _ _ hcur, ?_, fun r j hr' hj => ?_⟩
    · have h2 : (cur'.toList.take (l.sh + q * l.k) ++ nv ++ cur'.toList.drop (l.sh + q * l.k + nv.length)).toArray.size = cur'.size := by simpa using hlsz
      rw [h2]; exact hcsz
    · have hA2 : ((cur'.toList.take (l.sh + q * l.k) ++ nv ++ cur'.toList.drop (l.sh + q * l.k + nv.length)).toArray).getD (l.sh + r * l.k + j) undef = if q ≤ r ∧ r < q + new.length then nv.getD ((r - q) * l.k + j) undef else cur'.toList.getD (l.sh + r * l.k + j) undef := by
        rw [← over_get (xs := new) hnvl (by rw [hnvl]; simp; omega) hj]
        simp [Array.getD_eq_getD_getElem?, List.getD_eq_getElem?_getD]
      rw [hA2]
      have := place_row hq r hr'
      split at this
      · rename_i hin
        rw [if_pos hin, this]
        obtain ⟨h3, h4⟩ := hrel0 (r - q) j (by omega) (by omega)
        rw [← hlk] at h3 h4
        exact ⟨h3, h4.mv hev⟩
      · rename_i hin
        rw [if_neg hin, this.2]
        have hcg : cur'.toList.getD (l.sh + r * l.k + j) undef = cur'.getD (l.sh + r * l.k + j) undef := by simp [Array.getD_eq_getD_getElem?, List.getD_eq_getElem?_getD]
        rw [hcg]
        obtain ⟨h3, h4⟩ := hcell r j this.1 hj
        exact ⟨h3, h4.mv hev⟩
theorem ssem_copy {P : Program} {F : Fr} {H : Heap} {dst : Option Tmp} {x y : Operand} {t t' e0 : TypeId} {type : TypeId} {pos : String} {after : Array Edge} {guard : Option (Nat × Bool)} {id g k e n : Nat} {els new : List (List AV)} {room : Option Nat} {s : AV}
    (ht : P.underlying t = some (.slice e0)) (hk : ∀ w : World, (Go.sizeOf e0).run P w = .ok k w) (hx : opv F x = some (.osl id g k e n)) (ho : H[id]? = some ⟨g, k, els, room⟩) (hy : opv F y = some s) (hs : rowsIn H k s = some new)
    (h0 : 0 < new.length) (hn : new.length ≤ n) (he : e ≤ els.length) :
    SSem P F H ⟨dst, .call { callee := .builtin .copy, args := #[x, y], argTypes := #[t, t'] }, type, pos, after, guard⟩ (.int .i64 (new.length : Int), H.set id ⟨g, k, els.take e ++ new ++ els.drop (e + new.length), room⟩) := by
  intro G w C f hf hH
  have hv := hf x (by simp [Op.operands, Call.operands]) _ hx
  have hvs := hf y (by simp [Op.operands, Call.operands]) _ hy
  have hgen : g = C.γ id := hH.gen id _ ho
  obtain ⟨nv, hsrc⟩ := rowsIn_src (P := P) hH hvs hs
  generalize hu : f x = u at hv
  cases hv with
  | osl0 => omega
  | osl _ _ _ _ _ _ ad cap hnc hle h =>
    obtain ⟨l, bb, hι, hlb, hlk, hen, hcap, had⟩ := h hgen
    have had' := had (by omega)
    subst had'
    have hob := hH.ob id _ l ho hι
    obtain ⟨cur, et, hcur, hcsz, _⟩ := hob.cells bb hlb
    obtain ⟨h1, h2⟩ := place_sound hH ho hι hlb hlk hsrc.length hsrc.row hsrc.rel he (by omega) hcur
    have hm : (e + new.length) * l.k ≤ l.room * l.k := Nat.mul_le_mul_right _ (by omega)
    rw [Nat.add_mul] at hm
    have hnvl : nv.length = new.length * l.k := by rw [hsrc.length, hlk]
    have hst := run_storeCells_at P bb (l.sh + e * k) et nv 0 cur w hcur (by rw [← hlk]; simp; omega) hsrc.oneCell
    simp only [Nat.add_zero] at hst
    have hmin : Nat.min new.length n = new.length := Nat.min_eq_left hn
    have hr : (Builtin.copy_ #[t, t'] type #[f x, f y]).run P w = .ok (.int .i64 (new.length : Int)) (w.setRow bb (cur.toList.take (l.sh + e * l.k) ++ nv ++ cur.toList.drop (l.sh + e * l.k + nv.length)).toArray) := by
      rw [hu, hlk]
      simp [Builtin.copy_, run_underlying ht, hsrc.len w, hmin, hk w, hsrc.cells w rfl, hst, goInt]
    refine ⟨_, _, ?_, G, C, h1, h2, .int .., ?_⟩
    · simp [execOp, resolve, invoke, builtin, hr]
    · refine ⟨by simp, fun j hj _ hιj => ⟨hιj, rfl, ?_⟩⟩
      have hne : id ≠ j := fun e' => by subst e'; rw [hι] at hιj; simp at hιj
      exact List.getElem?_set_ne hne
theorem ssem_clear {P : Program} {F : Fr} {H : Heap} {dst : Option Tmp} {x : Operand} {t e0 : TypeId} {type : TypeId} {pos : String} {after : Array Edge} {guard : Option (Nat × Bool)} {id g k e n : Nat} {els : List (List AV)} {room : Option Nat} {z : Value}
    (ht : P.underlying t = some (.slice e0)) (hz : ∀ w : World, (zeroValue e0).run P w = .ok z w) (hzs : z.cells.size = k) (hz1 : ∀ v ∈ z.cells.toList, v.oneCell' = true) (hk0 : 0 < k) (hx : opv F x = some (.osl id g k e n)) (ho : H[id]? = some ⟨g, k, els, room⟩)
    (h0 : 0 < n) (he : e ≤ els.length) :
    SSem P F H ⟨dst, .call { callee := .builtin .clear, args := #[x], argTypes := #[t] }, type, pos, after, guard⟩ (.unk, H.set id ⟨g, k, els.take e ++ List.replicate n (List.replicate k .unk) ++ els.drop (e + n), room⟩) := by
  intro G w C f hf hH
  have hv := hf x (by simp [Op.operands, Call.operands]) _ hx
  have hgen : g = C.γ id := hH.gen id _ ho
  generalize hu : f x = u at hv
  cases hv with
  | osl0 => omega
  | osl _ _ _ _ _ _ ad cap hnc hle h =>
    obtain ⟨l, bb, hι, hlb, hlk, hen, hcap, had⟩ := h hgen
    have had' := had (by omega)
    subst had'
    have hob := hH.ob id _ l ho hι
    obtain ⟨cur, et, hcur, hcsz, _⟩ := hob.cells bb hlb
    have hzl : (Builtin.zeroCells z.cells n).toList.length = n * k := by simp [Builtin.zeroCells, hzs]
    have hone : ∀ v ∈ (Builtin.zeroCells z.cells n).toList, v.oneCell' = true := fun v hv => by
      simp only [Builtin.zeroCells, Array.toList_map, List.mem_map] at hv
      obtain ⟨i, hi, rfl⟩ := hv
      refine hz1 _ ?_
      have hlt : i % z.cells.size < z.cells.size := Nat.mod_lt _ (by omega)
      rw [getElem!_pos z.cells _ hlt]
      simp
    have hl2 : (List.replicate n (List.replicate k AV.unk)).length = n := by simp
    obtain ⟨h1, h2⟩ := place_sound (new := List.replicate n (List.replicate k AV.unk)) (nv := (Builtin.zeroCells z.cells n).toList) hH ho hι hlb hlk (by rw [hl2, hzl]) (fun i hi => by
        rw [hl2] at hi
        simp [List.getD_eq_getElem?_getD, List.getElem?_replicate, hi]) (fun i j hi hj => by
        rw [hl2] at hi
        have hlt := row_lt hi hj
        refine ⟨?_, ?_⟩
        · rw [List.getD_eq_getElem?_getD, List.getElem?_eq_getElem (by rw [hzl]; exact hlt)]
          exact hone _ (List.getElem_mem _)
        · simp only [List.getD_eq_getElem?_getD, List.getElem?_replicate, hi, hj, if_true, Option.getD_some]
          exact .unk ..) he (by rw [hl2]; omega) hcur
    rw [hl2] at h2
    have hm : (e + n) * l.k ≤ l.room * l.k := Nat.mul_le_mul_right _ (by omega)
    rw [Nat.add_mul] at hm
    have hst := run_storeCells_at P bb (l.sh + e * k) et (Builtin.zeroCells z.cells n).toList 0 cur w hcur (by rw [hzl, ← hlk]; simp; omega) hone
    simp only [Nat.add_zero] at hst
    have hn0 : n ≠ 0 := by omega
    have hr : (Builtin.clear_ #[t] type #[f x]).run P w = .ok (.tuple #[]) (w.setRow bb (cur.toList.take (l.sh + e * l.k) ++ (Builtin.zeroCells z.cells n).toList ++ cur.toList.drop (l.sh + e * l.k + (Builtin.zeroCells z.cells n).toList.length)).toArray) := by
      rw [hu, hlk]
      simp only [Builtin.clear_]
      cases n with
      | zero => omega
      | succ n => simp [run_underlying ht, hz w, hst]
    refine ⟨.tuple #[], _, ?_, G, C, h1, h2, .unk .., ?_⟩
    · simp [execOp, resolve, invoke, builtin, hr]
    · refine ⟨by simp, fun j hj _ hιj => ⟨hιj, rfl, ?_⟩⟩
      have hne : id ≠ j := fun e' => by subst e'; rw [hι] at hιj; simp at hιj
      exact List.getElem?_set_ne hne
end Go.Proofs.Ytpkgpldgoajphaa.AM

set_option linter.unusedVariables false
set_option linter.unusedSimpArgs false
namespace Go.Proofs.Ytpkgpldgoajphaa.AM
open Go

theorem run_append_make {P : Program} {G : Nat → Prop} {w : World} {C : Cx} {t t' ty e : TypeId} {i : TypeInfo} {z : Value} {kk kx : IntKind} (ht : P.underlying t = some (.slice e)) (ht' : P.underlying t' = some (.int kk)) (hi : P.info? e = some i) (hz : i.zero = some z)
    (c : Nat) {ys : List (List AV)} {ov : List Value} (base : Option Addr) (sLen sCap : Nat) (ho : Src P G w C i.size (.slice base sLen sCap) ys ov) (hlen : ys.length = sLen)
    (hg : sCap < sLen + c) (hb : 0 < i.bytes) (hs : 0 < i.size) (hc : 0 < c) (hby : (sLen + c) * i.bytes ≤ 140737488355328) :
    (Builtin.append_ #[t, t'] ty #[.slice base sLen sCap, .int kx (c : Int)]).run P w =
      .ok (.slice (some ⟨w.heap.size, 0, none⟩) (sLen + c) (grownCap w (sLen + c) sCap e))
        (w.drew.alloc (.cells (ov.toArray ++ Builtin.zeroCells z.cells c ++ Builtin.zeroCells z.cells (grownCap w (sLen + c) sCap e - (sLen + c))) e)) := by
  subst hlen
  have hn : ¬ (ys.length + c ≤ sCap) := by omega
  have hfit := growslice_fits hg hby
  have h48' : ¬ (281474976710656 < Builtin.nextslicecap (ys.length + c) sCap * i.bytes) := by omega
  have hb0 : ¬ i.bytes = 0 := by omega
  have hfo := ho.cells w.drew rfl
  have hcb : c * 1 ≤ c * i.bytes := Nat.mul_le_mul_left _ hb
  have hcm : c * i.bytes ≤ (ys.length + c) * i.bytes := Nat.mul_le_mul_right _ (by omega)
  have hcs : c ≤ 140737488355328 := by omega
  have hw : IntKind.i64.wrap (c : Int) = (c : Int) := i64_id (by omega) (by omega)
  have hcs0 : ¬ (c * i.size = 0) := by
    have := Nat.mul_pos hc hs; omega
  have h0 : ¬ ((c : Int) < 0) := by omega
  have h48 : ¬ ((281474976710656 : Int) < (c : Int) * (i.bytes : Int)) := by
    have : ((c * i.bytes : Nat) : Int) ≤ 140737488355328 := by omega
    rw [Int.natCast_mul] at this; omega
  have hmx : ¬ ((9223372036854775807 : Int) < (ys.length : Int) + (c : Int)) := by
    have : (ys.length + c) * 1 ≤ (ys.length + c) * i.bytes := Nat.mul_le_mul_left _ hb
    omega
  simp [Builtin.append_, run_underlying ht, run_underlying ht', Go.sizeOf, typeInfo, zeroValue, hi, hz, asInt, asIntOf, hw, h0, h48, hn, hb0, h48', hmx, hcs0, Question.forced, hfo, newRow, grownCap]
theorem zero_get {z : Value} {k c : Nat} (hzs : z.cells.size = k) (hk0 : 0 < k) (hz1 : ∀ v ∈ z.cells.toList, v.oneCell' = true) : (Builtin.zeroCells z.cells c).size = c * k ∧ ∀ v ∈ (Builtin.zeroCells z.cells c).toList, v.oneCell' = true := by
  refine ⟨by simp [Builtin.zeroCells, hzs], fun v hv => ?_⟩
  simp only [Builtin.zeroCells, Array.toList_map, List.mem_map] at hv
  obtain ⟨i, hi, rfl⟩ := hv
  refine hz1 _ ?_
  have hlt : i % z.cells.size < z.cells.size := Nat.mod_lt _ (by omega)
  rw [getElem!_pos z.cells _ hlt]
  simp
theorem grow_make {P : Program} {G : Nat → Prop} {w : World} {C : Cx} {H : Heap} (hH : HR G w C H) {t t' ty e : TypeId} {i : TypeInfo} {z : Value} {kk kx : IntKind} (ht : P.underlying t = some (.slice e)) (ht' : P.underlying t' = some (.int kk)) (hi : P.info? e = some i) (hz : i.zero = some z)
    (hzs : z.cells.size = i.size) (hz1 : ∀ v ∈ z.cells.toList, v.oneCell' = true) (c : Nat) {ys : List (List AV)} {ov : List Value} (base : Option Addr) (sLen sCap : Nat) (ho : Src P G w C i.size (.slice base sLen sCap) ys ov) (hlen : ys.length = sLen)
    (hg : sCap < sLen + c) (hb : 0 < i.bytes) (hs : 0 < i.size) (hc : 0 < c) (hby : (sLen + c) * i.bytes ≤ 140737488355328) :
    ∃ v w', (Builtin.append_ #[t, t'] ty #[.slice base sLen sCap, .int kx (c : Int)]).run P w = .ok v w' ∧ After G w C H (.osl H.length 0 i.size 0 (sLen + c), H ++ [⟨0, i.size, ys ++ List.replicate c (List.replicate i.size .unk), none⟩]) v w' := by
  have hr := run_append_make (ty := ty) (kx := kx) ht ht' hi hz c base sLen sCap ho hlen hg hb hs hc hby
  subst hlen
  have hge := grownCap_ge w (ys.length + c) sCap e
  generalize grownCap w (ys.length + c) sCap e = cap at hr hge
  obtain ⟨z1, z2⟩ := zero_get (c := c) hzs hs hz1
  have hl2 : (List.replicate c (List.replicate i.size AV.unk)).length = c := by simp
  have hnone := hH.out H.length (Nat.le_refl _)
  have hcells : ∀ q, (ov.toArray ++ Builtin.zeroCells z.cells c ++ Builtin.zeroCells z.cells (cap - (ys.length + c))).getD q undef = (ov ++ (Builtin.zeroCells z.cells c).toList ++ (Builtin.zeroCells z.cells (cap - (ys.length + c))).toList).getD q undef := fun q => by
    rw [List.getD_eq_getElem?_getD, Array.getD_eq_getD_getElem?]
    congr 1
    rw [← Array.getElem?_toList]
    simp
  have hrow2 : ∀ q, q < c → ((List.replicate c (List.replicate i.size AV.unk)).getD q []) = List.replicate i.size AV.unk := fun q hq => by simp [List.getD_eq_getElem?_getD, List.getElem?_replicate, hq]
  have hm := hH.made (w' := w.drew.alloc (.cells (ov.toArray ++ Builtin.zeroCells z.cells c ++ Builtin.zeroCells z.cells (cap - (ys.length + c))) e)) (H' := H ++ [⟨0, i.size, ys ++ List.replicate c (List.replicate i.size .unk), none⟩]) H.length i.size (ys ++ List.replicate c (List.replicate i.size .unk))
    (ov.toArray ++ Builtin.zeroCells z.cells c ++ Builtin.zeroCells z.cells (cap - (ys.length + c))) e rfl rfl rfl rfl cap 0 (by simpa using hge) ?_ (fun q hq => ?_) (by omega) (fun _ => hnone.2) (fun j hj => by
      rcases Nat.lt_or_ge j H.length with h' | h'
      · rw [List.getElem?_append_left h']
      · rw [List.getElem?_eq_none (by simp; omega), List.getElem?_eq_none (by omega)]) (by simp) (by simp) (Nat.le_refl _) fun q j hq hj => ?_
  · refine ⟨_, _, hr, G, _, hm.1, hm.2, .osl _ _ _ _ _ _ _ _ hge (by rw [Cx.lay_γ]; exact Nat.le_refl _) fun _ => ⟨_, _, Cx.lay_ι .., rfl, rfl, by simpa using hge, by simp, fun _ => by simp⟩, by simp, fun id hl _ hιd => ?_⟩
    have hne : id ≠ H.length := by omega
    exact ⟨by rw [(Cx.lay_ne _ _ _ _ hne).1]; exact hιd, (Cx.lay_ne _ _ _ _ hne).2, by rw [List.getElem?_append_left hl]⟩
  · simp only [Array.size_append, List.size_toArray, size_zeroCells, hzs, ho.length, ← Nat.add_mul]
    refine Nat.mul_le_mul_right _ ?_
    omega
  · simp only [List.length_append, hl2] at hq
    rw [cat_row]
    split
    · rename_i h; exact ho.row _ h
    · rw [hrow2 _ (by omega)]; simp
  · simp only [List.length_append, hl2] at hq
    rw [hcells, cat_get (xs := List.replicate c (List.replicate i.size AV.unk)) ho.length (by rw [hl2]; simpa using z1) (by rw [hl2]; exact hq) hj, cat_row]
    split
    · rename_i h; exact ho.rel _ _ h hj
    · rename_i h
      rw [hrow2 _ (by omega)]
      have hlt := row_lt (show q - ys.length < c by omega) hj
      refine ⟨?_, ?_⟩
      · rw [List.getD_eq_getElem?_getD, List.getElem?_eq_getElem (show _ < (Builtin.zeroCells z.cells c).size by rw [z1]; exact hlt)]
        exact z2 _ (List.getElem_mem _)
      · simp only [List.getD_eq_getElem?_getD, List.getElem?_replicate, hj, if_true, Option.getD_some]
        exact .unk ..
theorem ssem_make {P : Program} {F : Fr} {H : Heap} {dst : Option Tmp} {x y : Operand} {t t' e0 : TypeId} {type : TypeId} {pos : String} {after : Array Edge} {guard : Option (Nat × Bool)} {id g e n r c : Nat} {els ys : List (List AV)} {i : TypeInfo} {z : Value} {kk kx : IntKind}
    (ht : P.underlying t = some (.slice e0)) (ht' : P.underlying t' = some (.int kk)) (hi : P.info? e0 = some i) (hz : i.zero = some z) (hzs : z.cells.size = i.size) (hz1 : ∀ v ∈ z.cells.toList, v.oneCell' = true)
    (hx : opv F x = some (.osl id g i.size e n)) (ho : H[id]? = some ⟨g, i.size, els, some r⟩) (hrows : rowsIn H i.size (.osl id g i.size e n) = some ys) (hlen : ys.length = n) (hy : opv F y = some (.int kx (c : Int)))
    (hg : r - e < n + c) (hb : 0 < i.bytes) (hs : 0 < i.size) (hc : 0 < c) (hby : (n + c) * i.bytes ≤ 140737488355328) :
    SSem P F H ⟨dst, .call { callee := .builtin .append, args := #[x, y], argTypes := #[t, t'] }, type, pos, after, guard⟩ (.osl H.length 0 i.size 0 (n + c), H ++ [⟨0, i.size, ys ++ List.replicate c (List.replicate i.size .unk), none⟩]) := by
  intro G w C f hf hH
  have hv := hf x (by simp [Op.operands, Call.operands]) _ hx
  have hvy := hf y (by simp [Op.operands, Call.operands]) _ hy
  have hgen : g = C.γ id := hH.gen id _ ho
  obtain ⟨ov, hsrc⟩ := rowsIn_src (P := P) hH hv hrows
  generalize huy : f y = uy at hvy
  cases hvy
  have fin : ∀ base sCap, f x = .slice base n sCap → sCap < n + c → ∃ v w', (execOp f (⟨dst, .call { callee := .builtin .append, args := #[x, y], argTypes := #[t, t'] }, type, pos, after, guard⟩ : Oper)).run P w = .ok (.value v) w' ∧ After G w C H (.osl H.length 0 i.size 0 (n + c), H ++ [⟨0, i.size, ys ++ List.replicate c (List.replicate i.size .unk), none⟩]) v w' := by
    intro base sCap hfx hcap
    rw [hfx] at hsrc
    obtain ⟨v, w', h1, h2⟩ := grow_make (ty := type) (kx := kx) hH ht ht' hi hz hzs hz1 c base n sCap hsrc hlen hcap hb hs hc hby
    refine ⟨v, w', ?_, h2⟩
    simp [execOp, resolve, invoke, builtin, hfx, huy, h1]
  generalize hu : f x = u at hv
  cases hv with
  | osl _ _ _ _ _ _ ad cap hnc hle h =>
    obtain ⟨l, bb, hι, hlb, hlk, hen, hcap, _⟩ := h hgen
    have := (hH.ob id _ l ho hι).rm r rfl
    exact fin _ _ hu (by omega)
  | osl0 _ _ _ _ _ base hle h => exact fin _ _ hu (by omega)
end Go.Proofs.Ytpkgpldgoajphaa.AM

set_option linter.unusedVariables false
set_option linter.unusedSimpArgs false
namespace Go.Proofs.Ytpkgpldgoajphaa.AM
open Go

theorem ssem_slice3 {P : Program} {F : Fr} {H : Heap} {dst : Option Tmp} {x y m : Operand} {lo : Option Operand} {t e0 : TypeId} {type : TypeId} {pos : String} {after : Array Edge} {guard : Option (Nat × Bool)} {id g k e n l h c : Nat}
    (ht : P.underlying t = some (.slice e0)) (hk : ∀ w : World, (Go.sizeOf e0).run P w = .ok k w) (hx : opv F x = some (.osl id g k e n))
    (hlo : optInt F lo 0 = some (l : Int)) (hhi : optInt F (some y) 0 = some (h : Int)) (hmx : optInt F (some m) 0 = some (c : Int)) (h1 : l ≤ h) (h2 : h ≤ c) (h3 : c ≤ n) :
    SSem P F H ⟨dst, .slice t x lo (some y) (some m), type, pos, after, guard⟩ (.unk, H) := by
  intro G w C f hf hH
  have hv := hf x (by simp [Op.operands]) _ hx
  have hl := optInt_f (G := G) (w := w) (C := C) (f := f) hlo fun z hz a ha => hf z (by simp [Op.operands, hz]) a ha
  have hh := optInt_f (G := G) (w := w) (C := C) (f := f) hhi fun z hz a ha => hf z (by simp [Op.operands]; simp at hz; simp [hz]) a ha
  have hm := optInt_f (G := G) (w := w) (C := C) (f := f) hmx fun z hz a ha => hf z (by simp [Op.operands]; simp at hz; simp [hz]) a ha
  have hb : ∀ len cap : Nat, c ≤ cap → (Instr.sliceBounds true len cap (lo.map f) (some (f y)) (some (f m))).run P w = .ok (l, h, c) w := by
    intro len cap hc
    rcases hm with ⟨hm, _⟩ | ⟨z, kz, hz, hfm⟩
    · simp at hm
    · simp only [Option.some.injEq] at hz
      subst hz
      rcases hh with ⟨hh, _⟩ | ⟨z, kz, hz, hfz⟩
      · simp at hh
      · simp only [Option.some.injEq] at hz
        subst hz
        rcases hl with ⟨rfl, h0⟩ | ⟨z, kz', rfl, hz⟩
        · have : l = 0 := by omega
          subst this
          simp [Instr.sliceBounds, hfz, hfm, run_sliceBound, hc, h2]
        · simp [Instr.sliceBounds, hz, hfz, hfm, run_sliceBound, hc, h1, h2]
  have fin : ∀ base cap, f x = .slice base n cap → n ≤ cap → ∃ v, (Instr.sliceAt t (f x) (lo.map f) (some (f y)) (some (f m))).run P w = .ok v w := by
    intro base cap hu hcap
    rw [hu]
    simp only [Instr.sliceAt, Instr.slice, Sem.run_bind, run_underlying ht, Result.andThen_ok]
    rw [hb n cap (by omega)]
    simp only [Result.andThen_ok, hk w, Sem.run_pure, Sem.run_bind]
    exact ⟨_, rfl⟩
  have done : (∃ v, (Instr.sliceAt t (f x) (lo.map f) (some (f y)) (some (f m))).run P w = .ok v w) → ∃ v w', (execOp f (⟨dst, .slice t x lo (some y) (some m), type, pos, after, guard⟩ : Oper)).run P w = .ok (.value v) w' ∧ After G w C H (.unk, H) v w' := by
    intro ⟨v, hr⟩
    refine ⟨v, w, ?_, G, C, Ev.refl .., hH, .unk .., Pd.refl⟩
    simp only [execOp, Option.map_some, Option.map_none, Sem.run_bind, hr, Result.andThen_ok, Sem.run_pure]
  generalize hu : f x = u at hv
  cases hv with
  | osl _ _ _ _ _ _ ad cap hnc hle h => exact done (fin _ _ hu hnc)
  | osl0 _ _ _ _ _ base hle h => exact done (fin _ _ hu (Nat.le_refl _))
end Go.Proofs.Ytpkgpldgoajphaa.AM

set_option linter.unusedVariables false
set_option linter.unusedSimpArgs false
namespace Go.Proofs.Ytpkgpldgoajphaa.AM
open Go

theorem heap_lt {H : Heap} {i : Nat} {o : Ob} (ho : H[i]? = some o) : i < H.length := by
  rcases Nat.lt_or_ge i H.length with h' | h'
  · exact h'
  · rw [List.getElem?_eq_none h'] at ho; simp at ho

/-- A value that points at an object that is not given away: the object is made. -/
theorem VR.shows {G : Nat → Prop} {w : World} {C : Cx} {a : AV} {v : Value} (h : VR G w C a v) {id g : Nat} (ha : (∃ e c, a = .obj id g e c) ∨ ∃ k e n, a = .osl id g k e n) (hg : g = C.γ id) : ∃ l, C.ι id = some l := by
  rcases ha with ⟨e, c, rfl⟩ | ⟨k, e, n, rfl⟩
  · cases h with
    | obj _ _ _ _ _ ad hle hl => obtain ⟨l, b, h1, _⟩ := hl hg; exact ⟨l, h1⟩
  · obtain ⟨l, h1, _⟩ := osl_alive h hg
    exact ⟨l, h1⟩

/-- What is known behind a call may be said otherwise, if an argument shows that object id is made. -/
theorem ACalls.ghost {P : Program} {f : FuncId} {args : List AV} {H H1 H2 : Heap} {a a' x : AV} {i id g : Nat} {o o1 : Ob} (h : ACalls P f args H (a, H1)) (hi : args[i]? = some x) (hx : (∃ e c, x = .obj id g e c) ∨ ∃ k e n, x = .osl id g k e n)
    (ho : H[id]? = some o) (hg : o.gen = g) (ho1 : H1[id]? = some o1) (hg1 : o1.gen = g)
    (k : ∀ (G : Nat → Prop) (w : World) (C : Cx) (v : Value), HR G w C H1 → VR G w C a v → (∃ l, C.ι id = some l) → ∃ G' C', Ev G w C G' w C' ∧ HR G' w C' H2 ∧ VR G' w C' a' v ∧ Pd AnyId C H1 C' H2) : ACalls P f args H (a', H2) := by
  intro G w C vs hsz hargs hH
  have hlt : i < args.length := by
    rcases Nat.lt_or_ge i args.length with h' | h'
    · exact h'
    · rw [List.getElem?_eq_none h'] at hi; simp at hi
  have hv := hargs i hlt
  rw [List.getD_eq_getElem?_getD, hi] at hv
  have hγ := hH.gen id o ho
  obtain ⟨l, hl⟩ := VR.shows hv hx (by omega)
  refine (h G w C vs hsz hargs hH).mono fun v w' ⟨G', C', he, hh, hv, hp⟩ => ?_
  have hγ1 := hh.gen id o1 ho1
  have hl' : C'.ι id = some l := (he.cx id).2 (by omega) l hl
  obtain ⟨G2, C2, h1, h2, h3, h4⟩ := k G' w' C' v hh hv ⟨l, hl'⟩
  exact ⟨G2, C2, he.trans h1, h2, h3, hp.trans h4⟩
theorem ACalls.ghost0 {P : Program} {f : FuncId} {args : List AV} {H H1 H2 : Heap} {a a' : AV} (h : ACalls P f args H (a, H1))
    (k : ∀ (G : Nat → Prop) (w : World) (C : Cx) (v : Value), HR G w C H1 → VR G w C a v → ∃ G' C', Ev G w C G' w C' ∧ HR G' w C' H2 ∧ VR G' w C' a' v ∧ Pd AnyId C H1 C' H2) : ACalls P f args H (a', H2) := by
  intro G w C vs hsz hargs hH
  refine (h G w C vs hsz hargs hH).mono fun v w' ⟨G', C', he, hh, hv, hp⟩ => ?_
  obtain ⟨G2, C2, h1, h2, h3, h4⟩ := k G' w' C' v hh hv
  exact ⟨G2, C2, he.trans h1, h2, h3, hp.trans h4⟩

section
variable {P : Program} {G : Nat → Prop} {w : World} {C : Cx} {H : Heap}

theorem HR.get_cell (hH : HR G w C H) {id e c : Nat} {o : Ob} {l : Loc} (ho : H[id]? = some o) (hl : C.ι id = some l) (he : e < o.els.length) (hc : c < (o.els.getD e []).length) :
    ∃ b cs et, l.b = some b ∧ w.heap[b]? = some (.cells cs et (0, 0)) ∧ VR G w C ((o.els.getD e []).getD c .skip) (cs.getD (l.sh + e * l.k + c) undef) := by
  have hob := hH.ob id o l ho hl
  cases hb : l.b with
  | none => have := hob.no hb; have := hob.len; omega
  | some b =>
    obtain ⟨cs, et, h1, h2, h3⟩ := hob.cells b hb
    exact ⟨b, cs, et, rfl, h1, (h3 e c he (by rw [hob.row e he] at hc; exact hc)).2⟩
theorem HR.set_cell (hH : HR G w C H) {id e c : Nat} {o : Ob} {l : Loc} {a' : AV} {b : Nat} {cs : Array Value} {et : TypeId} (ho : H[id]? = some o) (hl : C.ι id = some l) (hb : l.b = some b) (hw : w.heap[b]? = some (.cells cs et (0, 0)))
    (hv : VR G w C a' (cs.getD (l.sh + e * l.k + c) undef)) : HR G w C (H.set id { o with els := o.els.set e ((o.els.getD e []).set c a') }) := by
  refine hH.set_ob ho rfl fun l' hl' hx => ?_
  obtain rfl : l = l' := by rw [hl] at hl'; simpa using hl'
  have hlen : ∀ i, i < o.els.length → ((o.els.set e ((o.els.getD e []).set c a')).getD i []).length = l.k := fun i hi => by
    by_cases h' : e = i
    · subst h'
      rw [List.getD_eq_getElem?_getD, List.getElem?_set_self hi, Option.getD_some, List.length_set]
      exact hx.row e hi
    · rw [List.getD_eq_getElem?_getD, List.getElem?_set_ne h', ← List.getD_eq_getElem?_getD]
      exact hx.row i hi
  refine ⟨hx.k, hx.rm, hx.no, by simpa using hx.len, fun i hi => hlen i (by simpa using hi), fun b' hb' => ?_⟩
  obtain rfl : b = b' := by rw [hb] at hb'; simpa using hb'
  obtain ⟨cs', et', h1, h2, h3⟩ := hx.cells b hb
  rw [hw] at h1
  simp only [Option.some.injEq, Obj.cells.injEq] at h1
  obtain ⟨rfl, rfl, _⟩ := h1
  refine ⟨cs, et, hw, h2, fun i j hi hj => ?_⟩
  simp only [List.length_set] at hi
  obtain ⟨h4, h5⟩ := h3 i j hi hj
  refine ⟨h4, ?_⟩
  by_cases h' : e = i
  · subst h'
    rw [List.getD_eq_getElem?_getD (l := o.els.set _ _), List.getElem?_set_self hi, Option.getD_some]
    have hlr := hx.row e hi
    by_cases hj' : c = j
    · subst hj'
      rw [List.getD_eq_getElem?_getD, List.getElem?_set_self (by omega), Option.getD_some]
      exact hv
    · rw [List.getD_eq_getElem?_getD, List.getElem?_set_ne hj', ← List.getD_eq_getElem?_getD]
      exact h5
  · rw [List.getD_eq_getElem?_getD (l := o.els.set _ _), List.getElem?_set_ne h', ← List.getD_eq_getElem?_getD]
    exact h5

/-- A slice that lies in an object is frozen. -/
theorem frz_cell_sound (hH : HR G w C H) {id e c id2 g2 k e2 n2 : Nat} {o : Ob} {a : AV} {v : Value} {xs : List (List AV)} (ho : H[id]? = some o) (hne : id ≠ id2) (he : e < o.els.length) (hc : c < (o.els.getD e []).length)
    (hcell : (o.els.getD e []).getD c .skip = .osl id2 g2 k e2 n2) (hr : rowsIn H k (.osl id2 g2 k e2 n2) = some xs) (hb : AV.bddss 0 xs = true) (hv : VR G w C a v) (hl : ∃ l, C.ι id = some l) :
    ∃ G' C', Ev G w C G' w C' ∧ HR G' w C' ((H.modify id2 fun o => { gen := o.gen + 1, k := o.k, els := [] }).set id { o with els := o.els.set e ((o.els.getD e []).set c (.sl .any k xs)) }) ∧ VR G' w C' a v ∧
      Pd AnyId C H C' ((H.modify id2 fun o => { gen := o.gen + 1, k := o.k, els := [] }).set id { o with els := o.els.set e ((o.els.getD e []).set c (.sl .any k xs)) }) := by
  obtain ⟨l, hl⟩ := hl
  obtain ⟨b, cs, et, h1, h2, h3⟩ := hH.get_cell ho hl he hc
  rw [hcell] at h3
  obtain ⟨G', C', hev, hh, hvv, hp⟩ := freeze_sound hH h3 hr hb
  have ho' : (H.modify id2 fun o => { gen := o.gen + 1, k := o.k, els := [] })[id]? = some o := by
    rw [List.getElem?_modify]; simp [ho, Ne.symm hne]
  have hl' : C'.ι id = some l := (hev.cx id).2 (by rw [← hh.gen id o ho', ← hH.gen id o ho]) l hl
  refine ⟨G', C', hev, hh.set_cell ho' hl' h1 h2 hvv, hv.ev hev, by simp, fun j hj hs hi => ?_⟩
  obtain ⟨p1, p2, p3⟩ := hp.2 j hj hs hi
  have hne' : id ≠ j := fun e => by subst e; rw [hl] at hi; simp at hi
  exact ⟨p1, p2, by rw [List.getElem?_set_ne hne']; exact p3⟩
/-- A nil slice that lies in an object is made exclusive. -/
theorem vir_cell_sound (hH : HR G w C H) {id e c k0 : Nat} (k : Nat) {o : Ob} {a : AV} {v : Value} (ho : H[id]? = some o) (he : e < o.els.length) (hc : c < (o.els.getD e []).length)
    (hcell : (o.els.getD e []).getD c .skip = .sl .nil k0 []) (hv : VR G w C a v) (hl : ∃ l, C.ι id = some l) :
    ∃ G' C', Ev G w C G' w C' ∧ HR G' w C' (H.set id { o with els := o.els.set e ((o.els.getD e []).set c (.osl H.length 0 k 0 0)) } ++ [{ gen := 0, k := k, els := [] }]) ∧ VR G' w C' a v ∧
      Pd AnyId C H C' (H.set id { o with els := o.els.set e ((o.els.getD e []).set c (.osl H.length 0 k 0 0)) } ++ [{ gen := 0, k := k, els := [] }]) := by
  obtain ⟨l, hl⟩ := hl
  obtain ⟨b, cs, et, h1, h2, h3⟩ := hH.get_cell ho hl he hc
  rw [hcell] at h3
  obtain ⟨C', hev, hh, hvv, hp⟩ := vir_sound hH h3 k
  have hlt := heap_lt ho
  have ho' : (H ++ [({ gen := 0, k := k, els := [] } : Ob)])[id]? = some o := by rw [List.getElem?_append_left hlt]; exact ho
  have hl' : C'.ι id = some l := (hev.cx id).2 (by rw [← hh.gen id o ho', ← hH.gen id o ho]) l hl
  have hset : (H ++ [({ gen := 0, k := k, els := [] } : Ob)]).set id { o with els := o.els.set e ((o.els.getD e []).set c (.osl H.length 0 k 0 0)) } = H.set id { o with els := o.els.set e ((o.els.getD e []).set c (.osl H.length 0 k 0 0)) } ++ [{ gen := 0, k := k, els := [] }] := List.set_append_left _ _ hlt
  rw [← hset]
  refine ⟨G, C', hev, hh.set_cell ho' hl' h1 h2 hvv, hv.ev hev, by simp, fun j hj hs hi => ?_⟩
  obtain ⟨p1, p2, p3⟩ := hp.2 j hj hs hi
  have hne' : id ≠ j := fun e => by subst e; rw [hl] at hi; simp at hi
  exact ⟨p1, p2, by rw [List.getElem?_set_ne hne']; exact p3⟩
/-- The rows of object j are taken over by object id. -/
theorem steal_sound (hH : HR G w C H) {id j g gj k n : Nat} {o oj : Ob} {v : Value} (hne : id ≠ j) (ho : H[id]? = some o) (hoj : H[j]? = some oj) (hgo : o.gen = g) (hgj : oj.gen = gj) (hv : VR G w C (.osl j gj k 0 n) v) (hl : ∃ l, C.ι id = some l) :
    ∃ G' C', Ev G w C G' w C' ∧ HR G' w C' ((H.set id { oj with gen := g + 1 }).set j ⟨gj + 1, k, [], none⟩) ∧ VR G' w C' (.osl id (g + 1) k 0 n) v ∧ Pd AnyId C H C' ((H.set id { oj with gen := g + 1 }).set j ⟨gj + 1, k, [], none⟩) := by
  obtain ⟨l, hl⟩ := hl
  have hγ := hH.gen id o ho
  have hγj := hH.gen j oj hoj
  have hlt := heap_lt ho
  have hltj := heap_lt hoj
  obtain ⟨lj, hlj, hlk⟩ := osl_alive hv (by omega)
  have hC1 : ((C.lay id (C.ι j) (g + 1)).lay j none (gj + 1)).ι j = none := Cx.lay_ι ..
  have hC2 : ((C.lay id (C.ι j) (g + 1)).lay j none (gj + 1)).γ j = gj + 1 := Cx.lay_γ ..
  have hC3 : ((C.lay id (C.ι j) (g + 1)).lay j none (gj + 1)).ι id = some lj := by rw [(Cx.lay_ne _ _ _ _ hne).1, Cx.lay_ι, hlj]
  have hC4 : ((C.lay id (C.ι j) (g + 1)).lay j none (gj + 1)).γ id = g + 1 := by rw [(Cx.lay_ne _ _ _ _ hne).2, Cx.lay_γ]
  have hC5 : ∀ i, i ≠ id → i ≠ j → ((C.lay id (C.ι j) (g + 1)).lay j none (gj + 1)).ι i = C.ι i ∧ ((C.lay id (C.ι j) (g + 1)).lay j none (gj + 1)).γ i = C.γ i := fun i h1 h2 => by
    rw [(Cx.lay_ne _ _ _ _ h2).1, (Cx.lay_ne _ _ _ _ h2).2, (Cx.lay_ne _ _ _ _ h1).1, (Cx.lay_ne _ _ _ _ h1).2]; exact ⟨rfl, rfl⟩
  generalize (C.lay id (C.ι j) (g + 1)).lay j none (gj + 1) = C' at hC1 hC2 hC3 hC4 hC5
  have hcx : CxLe C C' := fun i => by
    by_cases h1 : i = id
    · subst h1; rw [hC4]; exact ⟨by omega, fun e => by omega⟩
    · by_cases h2 : i = j
      · subst h2; rw [hC2]; exact ⟨by omega, fun e => by omega⟩
      · rw [(hC5 i h1 h2).1, (hC5 i h1 h2).2]; exact ⟨Nat.le_refl _, fun _ l hl => hl⟩
  have hback : ∀ i m, C'.ι i = some m → ∃ i', C.ι i' = some m ∧ (i = id → i' = j) ∧ (i ≠ id → i' = i) ∧ i ≠ j := fun i m hm => by
    by_cases h2 : i = j
    · subst h2; rw [hC1] at hm; simp at hm
    · by_cases h1 : i = id
      · subst h1; rw [hC3] at hm; exact ⟨j, by rw [hlj]; exact hm, fun _ => rfl, fun h => absurd rfl h, h2⟩
      · rw [(hC5 i h1 h2).1] at hm; exact ⟨i, hm, fun h => absurd h h1, fun _ => rfl, h2⟩
  have hev : Ev G w C G w C' := ⟨rfl, rfl, rfl, Nat.le_refl _, fun _ h => h, fun _ _ => rfl, hcx, fun _ _ _ => rfl, fun _ h => .inl h, fun i m b hm hb => by
    obtain ⟨i', h1, _⟩ := hback i m hm
    exact .inl ⟨i', m, h1, hb⟩, fun _ => rfl⟩
  have hget1 : ((H.set id { oj with gen := g + 1 }).set j ⟨gj + 1, k, [], none⟩)[j]? = some ⟨gj + 1, k, [], none⟩ := List.getElem?_set_self (by simpa using hltj)
  have hget2 : ((H.set id { oj with gen := g + 1 }).set j ⟨gj + 1, k, [], none⟩)[id]? = some { oj with gen := g + 1 } := by rw [List.getElem?_set_ne (Ne.symm hne), List.getElem?_set_self hlt]
  have hget3 : ∀ i, i ≠ id → i ≠ j → ((H.set id { oj with gen := g + 1 }).set j ⟨gj + 1, k, [], none⟩)[i]? = H[i]? := fun i h1 h2 => by rw [List.getElem?_set_ne (Ne.symm h2), List.getElem?_set_ne (Ne.symm h1)]
  refine ⟨G, C', hev, ⟨fun i oi hi => ?_, fun i hi => ?_, fun i m b hm hb => ?_, fun i i2 m m2 b hi hi2 hb hb2 => ?_, fun i oi m hi hm => ?_, hH.gsz⟩, ?_, by simp, fun i hi hs hi0 => ?_⟩
  · by_cases h2 : i = j
    · subst h2; rw [hget1] at hi; simp at hi; subst hi; exact hC2.symm
    · by_cases h1 : i = id
      · subst h1; rw [hget2] at hi; simp at hi; subst hi; exact hC4.symm
      · rw [hget3 i h1 h2] at hi; rw [(hC5 i h1 h2).2]; exact hH.gen i oi hi
  · simp only [List.length_set] at hi
    have h1 : i ≠ id := by omega
    have h2 : i ≠ j := by omega
    rw [(hC5 i h1 h2).1, (hC5 i h1 h2).2]; exact hH.out i hi
  · obtain ⟨i', h1, _⟩ := hback i m hm
    exact hH.own i' m b h1 hb
  · obtain ⟨i', p1, p2, p3, p4⟩ := hback i m hi
    obtain ⟨i2', q1, q2, q3, q4⟩ := hback i2 m2 hi2
    have := hH.inj _ _ _ _ b p1 q1 hb hb2
    by_cases h1 : i = id <;> by_cases h2 : i2 = id
    · omega
    · have := p2 h1; have := q3 h2; omega
    · have := p3 h1; have := q2 h2; omega
    · have := p3 h1; have := q3 h2; omega
  · obtain ⟨i', p1, p2, p3, p4⟩ := hback i m hm
    by_cases h1 : i = id
    · have e := p2 h1
      subst e h1
      rw [hget2] at hi
      simp only [Option.some.injEq] at hi
      subst hi
      have := (hH.ob i' oj m hoj p1).ev hev (fun _ _ => rfl)
      exact ⟨this.k, this.rm, this.no, this.len, this.row, this.cells⟩
    · have e := p3 h1
      subst e
      rw [hget3 i' h1 p4] at hi
      exact (hH.ob i' oi m hi p1).ev hev (fun _ _ => rfl)
  · cases hv with
    | osl _ _ _ _ _ _ ad cap hnc hle hl2 =>
      refine .osl _ _ _ _ _ _ _ _ hnc (by omega) fun _ => ?_
      obtain ⟨l2, b, q1, q2⟩ := hl2 (by omega)
      rw [hlj] at q1
      simp only [Option.some.injEq] at q1
      subst q1
      exact ⟨lj, b, hC3, q2⟩
    | osl0 _ _ _ _ _ base hle hl2 =>
      refine .osl0 _ _ _ _ _ _ (by omega) fun _ => ?_
      obtain ⟨l2, q1, q2⟩ := hl2 (by omega)
      rw [hlj] at q1
      simp only [Option.some.injEq] at q1
      subst q1
      exact ⟨lj, hC3, q2⟩
  · have h1 : i ≠ id := fun e => by subst e; rw [hl] at hi0; simp at hi0
    have h2 : i ≠ j := fun e => by subst e; rw [hlj] at hi0; simp at hi0
    exact ⟨by rw [(hC5 i h1 h2).1]; exact hi0, (hC5 i h1 h2).2, hget3 i h1 h2⟩
end

/-- The number of an object among more of them. -/
def tauOf (ids : List Nat) (n : Nat) (i : Nat) : Nat := if i < ids.length then ids.getD i 0 else n + (i - ids.length)
def RenL (τ : Nat → Nat) : Heap → Heap → Prop
  | [], [] => True
  | o :: l, o' :: l' => o.ren τ = o' ∧ RenL τ l l'
  | _, _ => False
theorem RenL.get {τ : Nat → Nat} : ∀ {l l' : Heap}, RenL τ l l' → l.length = l'.length ∧ ∀ (i : Nat) (o : Ob), l[i]? = some o → l'[i]? = some (o.ren τ)
  | [], [], _ => ⟨rfl, fun i o h => by simp at h⟩
  | o :: l, o' :: l', h => by
    obtain ⟨h1, h2⟩ := RenL.get h.2
    refine ⟨by simp [h1], fun i oi hi => ?_⟩
    cases i with
    | zero => simp at hi; subst hi; simp [h.1]
    | succ i => simpa using h2 i oi (by simpa using hi)
def setAll (H : Heap) : List Nat → Heap → Heap
  | i :: ids, o :: os => setAll (H.set i o) ids os
  | _, _ => H
theorem setAll_len : ∀ (ids : List Nat) (os : Heap) (H : Heap), (setAll H ids os).length = H.length
  | [], _, H => by simp [setAll]
  | _ :: _, [], H => by simp [setAll]
  | i :: ids, o :: os, H => by rw [setAll, setAll_len ids os]; simp
theorem setAll_other : ∀ (ids : List Nat) (os : Heap) (H : Heap) (j : Nat), (∀ i ∈ ids, i ≠ j) → (setAll H ids os)[j]? = H[j]?
  | [], _, H, j, _ => by simp [setAll]
  | _ :: _, [], H, j, _ => by simp [setAll]
  | i :: ids, o :: os, H, j, h => by
    rw [setAll, setAll_other ids os _ j (fun i hi => h i (by simp [hi])), List.getElem?_set_ne (h i (by simp))]
def nodupB : List Nat → Bool
  | [] => true
  | i :: ids => !ids.contains i && nodupB ids
theorem setAll_get : ∀ (ids : List Nat) (os : Heap) (H : Heap), nodupB ids = true → (∀ i ∈ ids, i < H.length) → ids.length = os.length → ∀ (q : Nat) (o : Ob), os[q]? = some o → (setAll H ids os)[ids.getD q 0]? = some o
  | [], [], H, _, _, _, q, o, hq => by simp at hq
  | i :: ids, o :: os, H, hn, hlt, hlen, q, o', hq => by
    simp only [nodupB, Bool.and_eq_true, Bool.not_eq_true', List.contains_eq_mem, decide_eq_false_iff_not] at hn
    simp only [setAll]
    cases q with
    | zero =>
      simp at hq; subst hq
      simp only [List.getD_cons_zero]
      rw [setAll_other ids os _ i (fun j hj e => hn.1 (e ▸ hj)), List.getElem?_set_self (hlt i (by simp))]
    | succ q =>
      simp only [List.getD_cons_succ]
      exact setAll_get ids os _ hn.2 (fun j hj => by simpa using hlt j (by simp [hj])) (by simpa using hlen) q o' (by simpa using hq)
theorem nodup_get : ∀ (ids : List Nat), nodupB ids = true → ∀ i j, i < ids.length → j < ids.length → ids.getD i 0 = ids.getD j 0 → i = j
  | [], _, i, _, hi, _, _ => by simp at hi
  | a :: ids, hn, i, j, hi, hj, e => by
    simp only [nodupB, Bool.and_eq_true, Bool.not_eq_true', List.contains_eq_mem, decide_eq_false_iff_not] at hn
    have hmem : ∀ q, q < ids.length → ids.getD q 0 ∈ ids := fun q hq => by
      rw [List.getD_eq_getElem?_getD, List.getElem?_eq_getElem hq]; exact List.getElem_mem _
    cases i with
    | zero =>
      cases j with
      | zero => rfl
      | succ j => simp only [List.getD_cons_zero, List.getD_cons_succ] at e; exact absurd (e ▸ hmem j (by simpa using hj)) hn.1
    | succ i =>
      cases j with
      | zero => simp only [List.getD_cons_zero, List.getD_cons_succ] at e; exact absurd (e.symm ▸ hmem i (by simpa using hi)) hn.1
      | succ j => simp only [List.getD_cons_succ] at e; rw [nodup_get ids hn.2 i j (by simpa using hi) (by simpa using hj) e]
theorem Ob.ren0 {τ : Nat → Nat} {o : Ob} (h : AV.bddss 0 o.els = true) : o.ren τ = o := Ob.ren_fix (fun i hi => absurd hi (Nat.not_lt_zero i)) o h
/-- A call over objects Hs is known of objects that lie at ids among Hb. -/
theorem ACalls.put {P : Program} {f : FuncId} {args args' : List AV} {a a' : AV} {Hs H1 N Hb Hg H1' N' : Heap} (ids : List Nat) (h : ACalls P f args Hs (a, H1 ++ N)) (hids : (nodupB ids && ids.all (fun i => decide (i < Hb.length))) = true)
    (hlen : ids.length = Hs.length) (hn : H1.length = Hs.length) (hargs : AV.bdds Hs.length args = true) (hbs : obsB Hs.length Hs = true) (hg : (ids.map fun i => Hb.getD i default) = Hg) (hget : RenL (tauOf ids Hb.length) Hs Hg)
    (h1 : RenL (tauOf ids Hb.length) H1 H1') (h2 : RenL (tauOf ids Hb.length) N N') (ha : AV.rens (tauOf ids Hb.length) args = args') (hr : a.ren (tauOf ids Hb.length) = a') : ACalls P f args' Hb (a', setAll Hb ids H1' ++ N') := by
  simp only [Bool.and_eq_true, List.all_eq_true, decide_eq_true_eq] at hids
  obtain ⟨hnd, hlt⟩ := hids
  subst ha hr hg
  have hτ : ∀ i, i < Hs.length → tauOf ids Hb.length i = ids.getD i 0 := fun i hi => by simp [tauOf, hlen, hi]
  have hτ2 : ∀ i, Hs.length ≤ i → tauOf ids Hb.length i = Hb.length + (i - Hs.length) := fun i hi => by
    have : ¬ i < Hs.length := by omega
    simp [tauOf, hlen, this]
  have hmem : ∀ q, q < Hs.length → ids.getD q 0 ∈ ids := fun q hq => by
    rw [List.getD_eq_getElem?_getD, List.getElem?_eq_getElem (by omega)]; exact List.getElem_mem _
  obtain ⟨g1, g2⟩ := hget.get
  obtain ⟨p1, p2⟩ := h1.get
  obtain ⟨n1, n2⟩ := h2.get
  refine h.frame (τ := tauOf ids Hb.length) (Hb := Hb) (Hb' := setAll Hb ids H1' ++ N') ⟨fun i hi => by rw [hτ i hi]; exact hlt _ (hmem i hi), hτ2, fun i j hi hj e => by
      rw [hτ i hi, hτ j hj] at e; exact nodup_get ids hnd i j (by omega) (by omega) e, fun i o ho => ?_⟩ hargs (fun i o ho => obsB_get hbs ho) (by simp [setAll_len, hn, n1]) (fun i o ho => ?_) fun j hj hj2 => ?_
  · have hi := heap_lt ho
    rw [hτ i hi]
    have := g2 i o ho
    rw [List.getElem?_map] at this
    have hi' : i < ids.length := by omega
    rw [List.getElem?_eq_getElem hi'] at this
    simp only [Option.map_some, Option.some.injEq] at this
    have hlt' := hlt _ (List.getElem_mem hi')
    rw [List.getD_eq_getElem?_getD (l := ids), List.getElem?_eq_getElem hi', Option.getD_some, ← this, List.getD_eq_getElem?_getD, List.getElem?_eq_getElem hlt', Option.getD_some]
  · rcases Nat.lt_or_ge i H1.length with hi | hi
    · rw [List.getElem?_append_left hi] at ho
      rw [hτ i (by omega), List.getElem?_append_left (by rw [setAll_len]; exact hlt _ (hmem i (by omega)))]
      exact setAll_get ids H1' Hb hnd hlt (by omega) i _ (p2 i o ho)
    · rw [List.getElem?_append_right hi] at ho
      rw [hτ2 i (by omega), List.getElem?_append_right (by rw [setAll_len]; omega), setAll_len]
      have : Hb.length + (i - Hs.length) - Hb.length = i - H1.length := by omega
      rw [this]
      exact n2 _ o ho
  · rw [List.getElem?_append_left (by rw [setAll_len]; exact hj)]
    refine setAll_other ids H1' Hb j fun i hi e => ?_
    obtain ⟨q, hq, e2⟩ := List.getElem_of_mem hi
    refine hj2 q (by omega) ?_
    rw [hτ q (by omega), List.getD_eq_getElem?_getD, List.getElem?_eq_getElem hq, Option.getD_some, e2, e]
end Go.Proofs.Ytpkgpldgoajphaa.AM

set_option linter.unusedVariables false
set_option linter.unusedSimpArgs false
namespace Go.Proofs.Ytpkgpldgoajphaa.AM
open Go

/-- Where how much room there is is not told, a slice may be cut up to the rows that are there. -/
theorem ssem_sliceR {P : Program} {F : Fr} {H : Heap} {dst : Option Tmp} {x y : Operand} {lo : Option Operand} {t e0 : TypeId} {type : TypeId} {pos : String} {after : Array Edge} {guard : Option (Nat × Bool)} {id g k e n l h : Nat} {els : List (List AV)} {room : Option Nat}
    (ht : P.underlying t = some (.slice e0)) (hk : ∀ w : World, (Go.sizeOf e0).run P w = .ok k w) (hx : opv F x = some (.osl id g k e n)) (ho : H[id]? = some ⟨g, k, els, room⟩)
    (hlo : optInt F lo 0 = some (l : Int)) (hhi : optInt F (some y) 0 = some (h : Int)) (h1 : l ≤ h) (h2 : e + h ≤ els.length) :
    SSem P F H ⟨dst, .slice t x lo (some y) none, type, pos, after, guard⟩ (.osl id g k (e + l) (h - l), H) := by
  intro G w C f hf hH
  have hv := hf x (by simp [Op.operands]) _ hx
  have hgen : g = C.γ id := hH.gen id _ ho
  have hl := optInt_f (G := G) (w := w) (C := C) (f := f) hlo fun z hz a ha => hf z (by simp [Op.operands, hz]) a ha
  have hh := optInt_f (G := G) (w := w) (C := C) (f := f) hhi fun z hz a ha => hf z (by simp [Op.operands]; simp at hz; simp [hz]) a ha
  have hb : ∀ len cap : Nat, h ≤ cap → (Instr.sliceBounds true len cap (lo.map f) (some (f y)) none).run P w = .ok (l, h, cap) w := by
    intro len cap hc
    rcases hh with ⟨hh, _⟩ | ⟨z, kz, hz, hfz⟩
    · simp at hh
    · simp only [Option.some.injEq] at hz
      subst hz
      rcases hl with ⟨rfl, h0⟩ | ⟨z, kz', rfl, hz⟩
      · have : l = 0 := by omega
        subst this
        simp [Instr.sliceBounds, hfz, run_sliceBound, hc]
      · simp [Instr.sliceBounds, hz, hfz, run_sliceBound, hc, h1]
  generalize hu : f x = u at hv
  cases hv with
  | osl _ _ _ _ _ _ ad cap hnc hle hl' =>
    obtain ⟨L, b, hι, hLb, hLk, hen, hcap, had⟩ := hl' hgen
    have hrm := (hH.ob id _ L ho hι).len
    simp only at hrm
    have hr : (Instr.sliceAt t (f x) (lo.map f) (some (f y)) none).run P w = .ok (.slice (if cap = l then some ad else (some ad).map (·.add (l * k))) (h - l) (cap - l)) w := by
      rw [hu]
      simp only [Instr.sliceAt, Instr.slice, Sem.run_bind, run_underlying ht, Result.andThen_ok]
      rw [hb n cap (by omega)]
      simp only [Result.andThen_ok, hk w, Sem.run_pure, Sem.run_bind]
    refine ⟨.slice (if cap = l then some ad else (some ad).map (·.add (l * k))) (h - l) (cap - l), w, ?_, G, C, Ev.refl .., hH, ?_, Pd.refl⟩
    · simp only [execOp, Option.map_some, Option.map_none, Sem.run_bind, hr, Result.andThen_ok, Sem.run_pure]
    · have hif : (if cap = l then some ad else (some ad).map (·.add (l * k))) = some (if cap = l then ad else ad.add (l * k)) := by split <;> rfl
      rw [hif]
      refine .osl _ _ _ _ _ _ _ _ (by omega) hle fun hg => ?_
      refine ⟨L, b, hι, hLb, hLk, by omega, by omega, fun hlt => ?_⟩
      rw [if_neg (by omega), had (by omega), add_addr, Nat.add_assoc, ← Nat.add_mul]
  | osl0 _ _ _ _ _ base hle hl' =>
    obtain ⟨L, hι, hLb, hLk⟩ := hl' hgen
    have hob := hH.ob id _ L ho hι
    have h4 := hob.no hLb
    have h5 := hob.len
    simp only at h5
    have hl0 : l = 0 := by omega
    have hh0 : h = 0 := by omega
    have hr : (Instr.sliceAt t (f x) (lo.map f) (some (f y)) none).run P w = .ok (.slice base 0 0) w := by
      rw [hu]
      simp only [Instr.sliceAt, Instr.slice, Sem.run_bind, run_underlying ht, Result.andThen_ok]
      rw [hb 0 0 (by omega)]
      simp [hk w, hl0, hh0]
    subst hl0; subst hh0
    refine ⟨.slice base 0 0, w, ?_, G, C, Ev.refl .., hH, .osl0 _ _ _ _ _ base hle hl', Pd.refl⟩
    simp only [execOp, Option.map_some, Option.map_none, Sem.run_bind, hr, Result.andThen_ok, Sem.run_pure]

/-- A copy whose source is longer than its target: the first rows are laid. -/
theorem ssem_copyN {P : Program} {F : Fr} {H : Heap} {dst : Option Tmp} {x y : Operand} {t t' e0 : TypeId} {type : TypeId} {pos : String} {after : Array Edge} {guard : Option (Nat × Bool)} {id g k e n id2 g2 e2 n2 : Nat} {els els2 : List (List AV)} {room room2 : Option Nat}
    (ht : P.underlying t = some (.slice e0)) (hk : ∀ w : World, (Go.sizeOf e0).run P w = .ok k w) (hx : opv F x = some (.osl id g k e n)) (ho : H[id]? = some ⟨g, k, els, room⟩) (hy : opv F y = some (.osl id2 g2 k e2 n2)) (ho2 : H[id2]? = some ⟨g2, k, els2, room2⟩)
    (h0 : 0 < n) (hn : n ≤ n2) (he : e ≤ els.length) (he2 : e2 + n ≤ els2.length) :
    SSem P F H ⟨dst, .call { callee := .builtin .copy, args := #[x, y], argTypes := #[t, t'] }, type, pos, after, guard⟩ (.int .i64 (n : Int), H.set id ⟨g, k, els.take e ++ (els2.drop e2).take n ++ els.drop (e + n), room⟩) := by
  intro G w C f hf hH
  have hv := hf x (by simp [Op.operands, Call.operands]) _ hx
  have hvs := hf y (by simp [Op.operands, Call.operands]) _ hy
  have hgen : g = C.γ id := hH.gen id _ ho
  have hgen2 : g2 = C.γ id2 := hH.gen id2 _ ho2
  have hnl : ((els2.drop e2).take n).length = n := by simp; omega
  generalize hu2 : f y = u2 at hvs
  cases hvs with
  | osl0 => omega
  | osl _ _ _ _ _ _ ad2 cap2 hnc2 hle2 hl2 =>
  have hvs' : VR G w C (.osl id2 g2 k e2 n) (.slice (some ad2) n cap2) := .osl _ _ _ _ _ _ _ _ (by omega) hle2 fun hg => by
    obtain ⟨l, b, q1, q2, q3, q4, q5⟩ := hl2 hg
    exact ⟨l, b, q1, q2, q3, by omega, q5⟩
  obtain ⟨nv, hsrc⟩ := rowsIn_src (P := P) (k := k) (xs := (els2.drop e2).take n) hH hvs' (by simp [rowsIn, ho2, he2])
  generalize hu : f x = u at hv
  cases hv with
  | osl0 => omega
  | osl _ _ _ _ _ _ ad cap hnc hle h =>
    obtain ⟨l, bb, hι, hlb, hlk, hen, hcap, had⟩ := h hgen
    have had' := had (by omega)
    subst had'
    have hob := hH.ob id _ l ho hι
    obtain ⟨cur, et, hcur, hcsz, _⟩ := hob.cells bb hlb
    obtain ⟨h1, h2⟩ := place_sound hH ho hι hlb hlk hsrc.length hsrc.row hsrc.rel he (by omega) hcur
    rw [hnl] at h2
    have hm : (e + n) * l.k ≤ l.room * l.k := Nat.mul_le_mul_right _ (by omega)
    rw [Nat.add_mul] at hm
    have hnvl : nv.length = n * l.k := by rw [hsrc.length, hlk, hnl]
    have hst := run_storeCells_at P bb (l.sh + e * k) et nv 0 cur w hcur (by rw [← hlk]; simp; omega) hsrc.oneCell
    simp only [Nat.add_zero] at hst
    have hmin : Nat.min n2 n = n := Nat.min_eq_right hn
    have hfc : (Builtin.firstCells k n (.slice (some ad2) n2 cap2)).run P w = .ok nv.toArray w := by
      have := hsrc.cells w rfl
      rw [hnl] at this
      exact this
    have hr : (Builtin.copy_ #[t, t'] type #[f x, f y]).run P w = .ok (.int .i64 (n : Int)) (w.setRow bb (cur.toList.take (l.sh + e * l.k) ++ nv ++ cur.toList.drop (l.sh + e * l.k + nv.length)).toArray) := by
      rw [hu, hu2, hlk]
      simp [Builtin.copy_, run_underlying ht, Builtin.lenOf, hmin, hk w, hfc, hst, goInt]
    refine ⟨_, _, ?_, G, C, h1, h2, .int .., ?_⟩
    · simp [execOp, resolve, invoke, builtin, hr]
    · refine ⟨by simp, fun j hj _ hιj => ⟨hιj, rfl, ?_⟩⟩
      have hne : id ≠ j := fun e' => by subst e'; rw [hι] at hιj; simp at hιj
      exact List.getElem?_set_ne hne

theorem run_overlaps_b {P : Program} (w : World) (tS tR e : TypeId) (ht : P.underlying tS = some (.slice e)) (size : Nat) (hz : ∀ w, (Go.sizeOf e).run P w = .ok size w)
    (a b : Addr) (la ca lb cb : Nat) (hne : a.block ≠ b.block) (tA tB : TypeId) (kA kB : Nat)
    (hsa : w.shape? a.block = some (tA, kA)) (hsb : w.shape? b.block = some (tB, kB)) (hkB : kB ≠ 0) (hkA : kA ≠ 0)
    (hfb : w.frozen? b = false) (hfe : w.frozen? { block := b.block, off := kB } = false) :
    (Extern.SlicesOverlaps.overlaps #[tS, tS] #[tR] #[.slice (some a) la ca, .slice (some b) lb cb]).run P w = .ok (.bool false) w := by
  have hnb : (a.block != b.block) = true := by simpa using hne
  have hnb' : (a.block == b.block) = false := by simpa using hne
  change Sem.run P (α := Value) (do
    let some t := (#[tS, tS] : Array TypeId)[0]? | stuck "slices.overlaps: no parameter types"
    let .slice elem ← underlying t | stuck "slices.overlaps: slice type expected"
    let size ← Go.sizeOf elem
    match (some a : Option Addr), (some b : Option Addr) with
    | some a, some b =>
      if la = 0 ∨ lb = 0 ∨ size = 0 then pure (Value.bool false)
      else if a.block != b.block && (← frozen a) && (← frozen b) then unsupported .addressObserved
      else do
        if a.block != b.block then do
          noView a; noView b
          if ← mayBeOne a b then return Value.bool ((← choose (.extern "sameAddr.stringBytes" 2)) == 1)
        pure (Value.bool (a.block == b.block && a.off < b.off + lb * size && b.off < a.off + la * size))
    | _, _ => pure (Value.bool false)) w = _
  by_cases h0 : la = 0 ∨ lb = 0 ∨ size = 0
  · simp [run_underlying ht, hz, h0]
  · cases kB with
    | zero => exact absurd rfl hkB
    | succ kB =>
      cases kA with
      | zero => exact absurd rfl hkA
      | succ kA =>
      cases hfa : w.frozen? a <;> cases hfa2 : w.frozen? { block := a.block, off := kA + 1 } <;>
      simp [run_underlying ht, hz, h0, hnb, hnb', frozen, noView, viewAt, mayBeOne, stringish, shape, Sem.run, hsa, hsb, hfb, hfe, hfa, hfa2]
/-- Immutable rows and exclusive ones do not overlap. -/
theorem acalls_overlaps {P : Program} {f : FuncId} {tS tR e0 : TypeId} {k : Nat} (hc : ∀ vs w, (callFunc f vs).run P w = ((Extern.SlicesOverlaps.overlaps #[tS, tS] #[tR] vs).run P w).andThen fun v w' => .ok (.value v) w')
    (ht : P.underlying tS = some (.slice e0)) (hk : ∀ w : World, (Go.sizeOf e0).run P w = .ok k w) (hk0 : 0 < k) {tg : Tg} {rows : List (List AV)} {id g e n : Nat} {H : Heap} {o : Ob} (ho : H[id]? = some o) (hg : o.gen = g) :
    ACalls P f [.sl tg k rows, .osl id g k e n] H (.bool false, H) := by
  intro G w C vs hsz hargs hH
  have h0 := hargs 0 (by simp)
  have h1 := hargs 1 (by simp)
  have hvs : vs = #[vs.getD 0 undef, vs.getD 1 undef] := by
    have hs2 : vs.size = 2 := by simpa using hsz
    apply Array.ext
    · simp [hs2]
    · intro i hi1 hi2
      rcases i with _ | _ | i
      · simp [Array.getD_eq_getD_getElem?, hs2]
      · simp [Array.getD_eq_getD_getElem?, hs2]
      · omega
  simp only [List.getD_cons_zero, List.getD_cons_succ] at h0 h1
  generalize vs.getD 0 undef = v0 at h0 hvs
  generalize vs.getD 1 undef = v1 at h1 hvs
  subst hvs
  have hdone : (Extern.SlicesOverlaps.overlaps #[tS, tS] #[tR] #[v0, v1]).run P w = .ok (.bool false) w → FCalls P f #[v0, v1] w (After G w C H (.bool false, H)) := fun hr => by
    unfold FCalls
    have := hc #[v0, v1] w
    rw [this]
    rw [hr, Result.andThen_ok]
    exact ⟨G, C, Ev.refl .., hH, .bool .., Pd.refl⟩
  apply hdone
  have hgen : g = C.γ id := by rw [← hg]; exact hH.gen id o ho
  have hsome : ∀ (a : Option Addr) la ca (b : Option Addr) lb cb, (a = none ∨ b = none ∨ la = 0 ∨ lb = 0) → (Extern.SlicesOverlaps.overlaps #[tS, tS] #[tR] #[.slice a la ca, .slice b lb cb]).run P w = .ok (.bool false) w := by
    intro a la ca b lb cb h
    change Sem.run P (α := Value) (do
      let some t := (#[tS, tS] : Array TypeId)[0]? | stuck "slices.overlaps: no parameter types"
      let .slice elem ← underlying t | stuck "slices.overlaps: slice type expected"
      let size ← Go.sizeOf elem
      match (a : Option Addr), (b : Option Addr) with
      | some a, some b =>
        if la = 0 ∨ lb = 0 ∨ size = 0 then pure (Value.bool false)
        else if a.block != b.block && (← frozen a) && (← frozen b) then unsupported .addressObserved
        else do
          if a.block != b.block then do
            noView a; noView b
            if ← mayBeOne a b then return Value.bool ((← choose (.extern "sameAddr.stringBytes" 2)) == 1)
          pure (Value.bool (a.block == b.block && a.off < b.off + lb * size && b.off < a.off + la * size))
      | _, _ => pure (Value.bool false)) w = _
    cases a <;> cases b <;> simp [run_underlying ht, hk w]
    intro h1 h2 h3
    rcases h with h | h | h | h
    · simp at h
    · simp at h
    · exact absurd h h1
    · exact absurd h h2
  generalize hu0 : v0 = u0 at h0
  cases h0 with
  | nils => 
    cases h1 with
    | osl => subst hu0; exact hsome _ _ _ _ _ _ (.inl rfl)
    | osl0 => subst hu0; exact hsome _ _ _ _ _ _ (.inl rfl)
  | sl _ _ _ _ ad cap htg hclip hle hs cv hkl hcl h1' hv =>
    subst hu0
    cases h1 with
    | osl0 => exact hsome _ _ _ _ _ _ (.inr (.inr (.inr rfl)))
    | osl _ _ _ _ _ _ ad2 cap2 hnc hle2 hl2 =>
      by_cases hr0 : rows.length = 0
      · exact hsome _ _ _ _ _ _ (.inr (.inr (.inl hr0)))
      by_cases hn0 : n = 0
      · exact hsome _ _ _ _ _ _ (.inr (.inr (.inr hn0)))
      obtain ⟨l, b, hι, hlb, hlk, hen, hcap, had⟩ := hl2 hgen
      have had' := had (by omega)
      have hne : rows ≠ [] := fun e => by simp [e] at hr0
      obtain ⟨hsp, hG⟩ := hs hne
      have hcell := hcl 0 0 (by omega) hk0
      obtain ⟨cs, et, hcs, hcsz, _⟩ := (hH.ob id o l ho hι).cells b hlb
      have hbG := (hH.own id l b hι hlb).2
      have hm : (e + n) * l.k ≤ l.room * l.k := Nat.mul_le_mul_right _ hen
      have hm2 : 1 * l.k ≤ (e + n) * l.k := Nat.mul_le_mul_right _ (by omega)
      have hsa : ∃ tA kA, w.shape? ad.block = some (tA, kA) ∧ kA ≠ 0 := by
        unfold World.cell? at hcell
        unfold World.shape?
        split at hcell
        · rename_i c t fr hw
          refine ⟨t, c.size, by simp only at hw; rw [hw], fun e0 => ?_⟩
          have : c = #[] := Array.eq_empty_of_size_eq_zero e0
          simp [this] at hcell
        · simp at hcell
      obtain ⟨tA, kA, hsa, hkA⟩ := hsa
      have hb2 : ad2.block = b := by rw [had']
      refine run_overlaps_b w tS tR e0 ht k hk ad ad2 _ _ _ _ (fun e' => ?_) tA et kA cs.size hsa (by rw [hb2]; simp [World.shape?, hcs]) (by omega) hkA (by simp [World.frozen?, hb2, hcs]) (by simp [World.frozen?, hb2, hcs])
      rw [hb2] at e'
      exact hbG (e' ▸ hG)
end Go.Proofs.Ytpkgpldgoajphaa.AM

set_option linter.unusedVariables false
set_option linter.unusedSimpArgs false
namespace Go.Proofs.Ytpkgpldgoajphaa.AM
open Go

def regsOf : Code → Nat → Option (Array Oper)
  | .region id ops _, r => bif Nat.beq id r then some ops else none
  | .seq a b, r => match regsOf a r with
    | some x => some x
    | none => regsOf b r
  | .cond _ a b, r => match regsOf a r with
    | some x => some x
    | none => regsOf b r
  | .block _ c, r => regsOf c r
  | .loop c, r => regsOf c r
  | _, _ => none
def opIn (fn : Func) (r i : Nat) : Oper := match (fn.body.bind (regsOf · r)).bind (·[i]?) with
  | some o => o
  | none => ⟨none, .move (.tmp 0), 0, "", #[], none⟩
/-- The operation's arguments. -/
def argO (o : Oper) (i : Nat) : Operand := match o.op with
  | .call c => c.args.getD i (.tmp 0)
  | .slice _ x _ _ _ => x
  | _ => .tmp 0
def loO (o : Oper) : Option Operand := match o.op with
  | .slice _ _ lo _ _ => lo
  | _ => none
def hiO (o : Oper) : Operand := match o.op with
  | .slice _ _ _ (some hi) _ => hi
  | _ => .tmp 0
def mxO (o : Oper) : Operand := match o.op with
  | .slice _ _ _ _ (some m) => m
  | _ => .tmp 0

section
variable {P : Program} {X : Env} {F : Fr} {H H2 : Heap} {ar : Nat} {o : Oper} {a : AV}
theorem Sat.sem (hs : isSem X o = true) (h : SSem P F H o (a, H2)) : Sat P X F H ar o a H2 := by
  unfold Sat
  rw [hs]
  exact .inl h
theorem tok_slice {T : TT} (hT : TOk P T) {t e : TypeId} {ti : TI} (ht : T t = some ti) (hd : ti.d = .slice e) : P.underlying t = some (.slice e) := by
  have := (hT t ti ht).und
  rw [hd] at this
  exact this
theorem tok_int {T : TT} (hT : TOk P T) {t : TypeId} {ti : TI} {k : IntKind} (ht : T t = some ti) (hd : ti.d = .int k) : P.underlying t = some (.int k) := by
  have := (hT t ti ht).und
  rw [hd] at this
  exact this
theorem one_of_scalar {v : Value} {a : AV} (h : ofScalar v = some a) : v.oneCell' = true := by
  unfold ofScalar at h
  split at h <;> first | rfl | simp at h
theorem one_of_scalars : ∀ {vs : List Value} {as_ : List AV}, ofScalars vs = some as_ → ∀ v ∈ vs, v.oneCell' = true
  | [], _, _, v, hv => by simp at hv
  | x :: xs, as_, h, v, hv => by
    simp only [ofScalars] at h
    split at h
    · rename_i a l h1 h2
      simp only [List.mem_cons] at hv
      rcases hv with rfl | hv
      · exact one_of_scalar h1
      · exact one_of_scalars h2 v hv
    · simp at h
theorem scalars_len : ∀ {vs : List Value} {as_ : List AV}, ofScalars vs = some as_ → vs.length = as_.length
  | [], as_, h => by simp [ofScalars] at h; subst h; rfl
  | x :: xs, as_, h => by
    simp only [ofScalars] at h
    split at h
    · rename_i a l h1 h2
      simp only [Option.some.injEq] at h
      subst h
      simp [scalars_len h2]
    · simp at h

theorem sat_copy (hT : TOk P X.T) {t t' e0 : TypeId} {ti te : TI} (hop : o.op = .call { callee := .builtin .copy, args := #[argO o 0, argO o 1], argTypes := #[t, t'] }) (hsem : isSem X o = true) (ht : X.T t = some ti) (htd : ti.d = .slice e0) (hte : X.T e0 = some te)
    {id g k e n : Nat} {els new els' : List (List AV)} {room : Option Nat} {s : AV} {c : Int} (hk : te.size = k) (hx : opv F (argO o 0) = some (.osl id g k e n)) (ho : H[id]? = some ⟨g, k, els, room⟩) (hy : opv F (argO o 1) = some s) (hs : rowsIn H k s = some new)
    (h0 : 0 < new.length) (hn : new.length ≤ n) (he : e ≤ els.length) (hels : els.take e ++ new ++ els.drop (e + new.length) = els') (hc : c = (new.length : Int)) (hH : H.set id ⟨g, k, els', room⟩ = H2) : Sat P X F H ar o (.int .i64 c) H2 := by
  refine Sat.sem hsem ?_
  subst hH hels hc hk
  obtain ⟨dst, op, type, pos, after, guard⟩ := o
  simp only at hop
  generalize argO _ 0 = x at hop hx
  generalize argO _ 1 = y at hop hy
  subst hop
  exact ssem_copy (tok_slice hT ht htd) (fun w => (hT _ _ hte).sizeOf w) hx ho hy hs h0 hn he
theorem sat_copyN (hT : TOk P X.T) {t t' e0 : TypeId} {ti te : TI} (hop : o.op = .call { callee := .builtin .copy, args := #[argO o 0, argO o 1], argTypes := #[t, t'] }) (hsem : isSem X o = true) (ht : X.T t = some ti) (htd : ti.d = .slice e0) (hte : X.T e0 = some te)
    {id g k e n id2 g2 e2 n2 : Nat} {els els2 els' : List (List AV)} {room room2 : Option Nat} {c : Int} (hk : te.size = k) (hx : opv F (argO o 0) = some (.osl id g k e n)) (ho : H[id]? = some ⟨g, k, els, room⟩) (hy : opv F (argO o 1) = some (.osl id2 g2 k e2 n2)) (ho2 : H[id2]? = some ⟨g2, k, els2, room2⟩)
    (h0 : 0 < n) (hn : n ≤ n2) (he : e ≤ els.length) (he2 : e2 + n ≤ els2.length) (hels : els.take e ++ (els2.drop e2).take n ++ els.drop (e + n) = els') (hc : c = (n : Int)) (hH : H.set id ⟨g, k, els', room⟩ = H2) : Sat P X F H ar o (.int .i64 c) H2 := by
  refine Sat.sem hsem ?_
  subst hH hels hc hk
  obtain ⟨dst, op, type, pos, after, guard⟩ := o
  simp only at hop
  generalize argO _ 0 = x at hop hx
  generalize argO _ 1 = y at hop hy
  subst hop
  exact ssem_copyN (tok_slice hT ht htd) (fun w => (hT _ _ hte).sizeOf w) hx ho hy ho2 h0 hn he he2
theorem sat_cap (hT : TOk P X.T) {t e0 : TypeId} {ti : TI} (hop : o.op = .call { callee := .builtin .cap, args := #[argO o 0], argTypes := #[t] }) (hsem : isSem X o = true) (ht : X.T t = some ti) (htd : ti.d = .slice e0)
    {id g k e n r : Nat} {els : List (List AV)} {c : Int} (hx : opv F (argO o 0) = some (.osl id g k e n)) (ho : H[id]? = some ⟨g, k, els, some r⟩) (hc : c = ((r - e : Nat) : Int)) : Sat P X F H ar o (.int .i64 c) H := by
  refine Sat.sem hsem ?_
  subst hc
  obtain ⟨dst, op, type, pos, after, guard⟩ := o
  simp only at hop
  generalize argO _ 0 = x at hop hx
  subst hop
  exact ssem_cap (tok_slice hT ht htd) hx ho
theorem sat_clear (hT : TOk P X.T) {t e0 : TypeId} {ti te : TI} (hop : o.op = .call { callee := .builtin .clear, args := #[argO o 0], argTypes := #[t] }) (hsem : isSem X o = true) (ht : X.T t = some ti) (htd : ti.d = .slice e0) (hte : X.T e0 = some te)
    {id g k e n : Nat} {els els' : List (List AV)} {room : Option Nat} (hk : te.size = k) (hk0 : 0 < k) (hx : opv F (argO o 0) = some (.osl id g k e n)) (ho : H[id]? = some ⟨g, k, els, room⟩)
    (h0 : 0 < n) (he : e ≤ els.length) (hels : els.take e ++ List.replicate n (List.replicate k .unk) ++ els.drop (e + n) = els') (hH : H.set id ⟨g, k, els', room⟩ = H2) : Sat P X F H ar o .unk H2 := by
  refine Sat.sem hsem ?_
  subst hH hels hk
  obtain ⟨dst, op, type, pos, after, guard⟩ := o
  simp only at hop
  generalize argO _ 0 = x at hop hx
  subst hop
  obtain ⟨i, hi, hsz, hby, z, hz, hzs, hzl, hza⟩ := (hT _ _ hte).info
  refine ssem_clear (tok_slice hT ht htd) (z := z) (fun w => by simp [zeroValue, typeInfo, hi, hz]) (by have := scalars_len hzs; simp at this; omega) (one_of_scalars hzs) hk0 hx ho h0 he
theorem sat_slice (hT : TOk P X.T) {t e0 : TypeId} {ti te : TI} (hop : o.op = .slice t (argO o 0) (loO o) (some (hiO o)) none) (hsem : isSem X o = true) (ht : X.T t = some ti) (htd : ti.d = .slice e0) (hte : X.T e0 = some te)
    {id g k e n r l h e' n' : Nat} {els : List (List AV)} (hk : te.size = k) (hx : opv F (argO o 0) = some (.osl id g k e n)) (ho : H[id]? = some ⟨g, k, els, some r⟩) (hlo : optInt F (loO o) 0 = some (l : Int)) (hhi : optInt F (some (hiO o)) 0 = some (h : Int)) (h1 : l ≤ h) (h2 : e + h ≤ r) (he' : e' = e + l) (hn' : n' = h - l) :
    Sat P X F H ar o (.osl id g k e' n') H := by
  refine Sat.sem hsem ?_
  subst hk he' hn'
  obtain ⟨dst, op, type, pos, after, guard⟩ := o
  simp only at hop
  generalize argO _ 0 = x at hop hx
  generalize loO _ = lo at hop hlo
  generalize hiO _ = hi at hop hhi
  subst hop
  exact ssem_slice (tok_slice hT ht htd) (fun w => (hT _ _ hte).sizeOf w) hx ho hlo hhi h1 h2
theorem sat_sliceR (hT : TOk P X.T) {t e0 : TypeId} {ti te : TI} (hop : o.op = .slice t (argO o 0) (loO o) (some (hiO o)) none) (hsem : isSem X o = true) (ht : X.T t = some ti) (htd : ti.d = .slice e0) (hte : X.T e0 = some te)
    {id g k e n l h e' n' : Nat} {els : List (List AV)} {room : Option Nat} (hk : te.size = k) (hx : opv F (argO o 0) = some (.osl id g k e n)) (ho : H[id]? = some ⟨g, k, els, room⟩) (hlo : optInt F (loO o) 0 = some (l : Int)) (hhi : optInt F (some (hiO o)) 0 = some (h : Int)) (h1 : l ≤ h) (h2 : e + h ≤ els.length) (he' : e' = e + l) (hn' : n' = h - l) :
    Sat P X F H ar o (.osl id g k e' n') H := by
  refine Sat.sem hsem ?_
  subst hk he' hn'
  obtain ⟨dst, op, type, pos, after, guard⟩ := o
  simp only at hop
  generalize argO _ 0 = x at hop hx
  generalize loO _ = lo at hop hlo
  generalize hiO _ = hi at hop hhi
  subst hop
  exact ssem_sliceR (tok_slice hT ht htd) (fun w => (hT _ _ hte).sizeOf w) hx ho hlo hhi h1 h2
theorem sat_slice3 (hT : TOk P X.T) {t e0 : TypeId} {ti te : TI} (hop : o.op = .slice t (argO o 0) (loO o) (some (hiO o)) (some (mxO o))) (hsem : isSem X o = true) (ht : X.T t = some ti) (htd : ti.d = .slice e0) (hte : X.T e0 = some te)
    {id g k e n l h c : Nat} (hk : te.size = k) (hx : opv F (argO o 0) = some (.osl id g k e n)) (hlo : optInt F (loO o) 0 = some (l : Int)) (hhi : optInt F (some (hiO o)) 0 = some (h : Int)) (hmx : optInt F (some (mxO o)) 0 = some (c : Int)) (h1 : l ≤ h) (h2 : h ≤ c) (h3 : c ≤ n) :
    Sat P X F H ar o .unk H := by
  refine Sat.sem hsem ?_
  subst hk
  obtain ⟨dst, op, type, pos, after, guard⟩ := o
  simp only at hop
  generalize argO _ 0 = x at hop hx
  generalize loO _ = lo at hop hlo
  generalize hiO _ = hi at hop hhi
  generalize mxO _ = mx at hop hmx
  subst hop
  exact ssem_slice3 (tok_slice hT ht htd) (fun w => (hT _ _ hte).sizeOf w) hx hlo hhi hmx h1 h2 h3
theorem sat_make (hT : TOk P X.T) {t t' e0 : TypeId} {ti ti' te : TI} {kk kx : IntKind} (hop : o.op = .call { callee := .builtin .append, args := #[argO o 0, argO o 1], argTypes := #[t, t'] }) (hsem : isSem X o = true) (ht : X.T t = some ti) (htd : ti.d = .slice e0) (hte : X.T e0 = some te) (ht' : X.T t' = some ti') (htd' : ti'.d = .int kk)
    {id g k e n n' r c : Nat} {els ys els' : List (List AV)} (hk : te.size = k) (hx : opv F (argO o 0) = some (.osl id g k e n)) (ho : H[id]? = some ⟨g, k, els, some r⟩) (hrows : rowsIn H k (.osl id g k e n) = some ys) (hlen : ys.length = n) (hy : opv F (argO o 1) = some (.int kx (c : Int)))
    (hg : r - e < n + c) (hb : 0 < te.bytes) (hs : 0 < k) (hc : 0 < c) (hby : (n + c) * te.bytes ≤ 140737488355328) (hels : ys ++ List.replicate c (List.replicate k .unk) = els') (hn' : n' = n + c) (hH : H ++ [⟨0, k, els', none⟩] = H2) :
    Sat P X F H ar o (.osl H.length 0 k 0 n') H2 := by
  refine Sat.sem hsem ?_
  subst hk hels hH hn'
  obtain ⟨dst, op, type, pos, after, guard⟩ := o
  simp only at hop
  generalize argO _ 0 = x at hop hx
  generalize argO _ 1 = y at hop hy
  subst hop
  obtain ⟨i, hi, hsz, hbt, z, hz, hzs, hzl, hza⟩ := (hT _ _ hte).info
  rw [← hsz] at hx ho hrows hs ⊢
  rw [← hbt] at hb hby
  exact ssem_make (tok_slice hT ht htd) (tok_int hT ht' htd') hi hz (by have := scalars_len hzs; simp at this; omega) (one_of_scalars hzs) hx ho hrows hlen hy hg hb hs hc hby
end

/-- Appending a slice's own later rows to its first ones. -/
theorem evAppend_over {T : TT} {H H2 : Heap} {t e0 : TypeId} {ti te : TI} {id g k i j m n' : Nat} {els els' : List (List AV)} (ht : T t = some ti) (htd : ti.d = .slice e0) (hte : T e0 = some te) (hk : te.size = k) (hk0 : 0 < k) (ho : H[id]? = some ⟨g, k, els, none⟩) (hij : i < j) (hj : j + m ≤ els.length)
    (hels : els.take i ++ (els.drop j).take m ++ els.drop (i + m) = els') (hn : n' = i + m) (hH : H.set id ⟨g, k, els', none⟩ = H2) : evAppend T H t (.osl id g k 0 i) (.osl id g k j m) = some (.osl id g k 0 n', H2) := by
  obtain ⟨d, sz, bt, z⟩ := ti
  simp only at htd
  subst htd hk hn hels hH
  have hlt : id < H.length := heap_lt ho
  have hnl : ((els.drop j).take m).length = m := by simp; omega
  unfold evAppend
  simp only [ht, hte, rowsIn, ho, true_and, if_pos hj]
  cases hnew : (els.drop j).take m with
  | nil =>
    simp only
    have hm : m = 0 := by rw [hnew] at hnl; simpa using hnl.symm
    subst hm
    have hs : H.set id ⟨g, te.size, els, none⟩ = H := by
      apply List.ext_getElem?
      intro q
      by_cases hq : id = q
      · subst hq; rw [List.getElem?_set_self hlt, ho]
      · rw [List.getElem?_set_ne hq]
    simp [hs]
  | cons x xs =>
    rw [hnew] at hnl
    have h1 : ¬ (0 + i = els.length) := by omega
    have h2 : 0 + i + (x :: xs).length ≤ els.length := by omega
    simp only [hk0, and_self, if_true, if_neg h1, if_pos h2, hnl, Nat.zero_add]
    simp only [Nat.zero_add] at h1 h2
    rw [hnl] at h2
    simp [h1, h2]
section
variable {α : Type} (row : α → List AV) (x : α) (u : List AV)
theorem ins1 (l : List α) {i c : Nat} (hi : i ≤ l.length) (hc : 0 < c) : ((l.take i).map row ++ List.replicate c u).take i ++ [row x] ++ ((l.take i).map row ++ List.replicate c u).drop (i + 1) = (l.take i ++ [x]).map row ++ List.replicate (c - 1) u := by
  have hl : ((l.take i).map row).length = i := by simp; omega
  rw [List.take_append_of_le_length (by omega), List.take_of_length_le (by omega), List.drop_append, hl, List.drop_of_length_le (by omega)]
  simp
theorem ins2 (l : List α) {i c : Nat} (hi : i ≤ l.length) (hc : c = l.length - i) : ((l.take i ++ [x]).map row ++ List.replicate c u).take (i + 1) ++ (l.drop i).map row ++ ((l.take i ++ [x]).map row ++ List.replicate c u).drop (i + 1 + ((l.drop i).map row).length) = (l.take i ++ x :: l.drop i).map row := by
  have hl : ((l.take i ++ [x]).map row).length = i + 1 := by simp; omega
  have h2 : ((l.take i ++ [x]).map row ++ List.replicate c u).drop (i + 1 + ((l.drop i).map row).length) = [] := List.drop_of_length_le (by rw [List.length_append, hl, List.length_replicate, List.length_map, List.length_drop]; omega)
  rw [h2, List.take_append_of_le_length (by omega), List.take_of_length_le (by omega)]
  simp
theorem ins3 (l : List α) {i : Nat} (hi : i < l.length) : (l.map row).take (i + 1) ++ ((l.map row).drop i).take (l.length - i) ++ (l.map row).drop (i + 1 + (l.length - i)) = (l.take (i + 1) ++ l.drop i).map row := by
  rw [List.take_of_length_le (l := (l.map row).drop i) (by simp), List.drop_of_length_le (i := i + 1 + (l.length - i)) (by simp; omega)]
  simp [List.map_take, List.map_drop]
theorem ins4 (l : List α) {i : Nat} (hi : i < l.length) : ((l.take (i + 1) ++ l.drop i).map row).take i ++ [row x] ++ ((l.take (i + 1) ++ l.drop i).map row).drop (i + 1) = (l.take i ++ x :: l.drop i).map row := by
  have hl : (l.take (i + 1)).length = i + 1 := by simp; omega
  rw [← List.map_take, ← List.map_drop, List.take_append_of_le_length (by omega), List.take_take, List.drop_append, hl, List.drop_of_length_le (by omega)]
  simp
theorem del1 (l : List α) {i : Nat} (hi : i < l.length) : (l.map row).take i ++ ((l.map row).drop (i + 1)).take (l.length - (i + 1)) ++ (l.map row).drop (i + (l.length - (i + 1))) = (l.take i ++ l.drop (i + 1) ++ l.drop (l.length - 1)).map row := by
  rw [List.take_of_length_le (l := (l.map row).drop (i + 1)) (by simp), show i + (l.length - (i + 1)) = l.length - 1 by omega]
  simp [List.map_take, List.map_drop]
theorem del2 (l : List α) {i : Nat} (hi : i < l.length) : ((l.take i ++ l.drop (i + 1) ++ l.drop (l.length - 1)).map row).take (l.length - 1) ++ List.replicate 1 u ++ ((l.take i ++ l.drop (i + 1) ++ l.drop (l.length - 1)).map row).drop (l.length - 1 + 1) = (l.take i ++ l.drop (i + 1)).map row ++ [u] := by
  have hl : ((l.take i ++ l.drop (i + 1)).map row).length = l.length - 1 := by simp; omega
  have h2 : ((l.take i ++ l.drop (i + 1) ++ l.drop (l.length - 1)).map row).drop (l.length - 1 + 1) = [] := List.drop_of_length_le (by rw [List.map_append, List.length_append, hl, List.length_map, List.length_drop]; omega)
  rw [h2, List.map_append, List.take_append_of_le_length (by omega), List.take_of_length_le (by omega)]
  simp [List.replicate]
end
end Go.Proofs.Ytpkgpldgoajphaa.AM

set_option linter.unusedVariables false
set_option linter.unusedSimpArgs false
namespace Go.Proofs.Ytpkgpldgoajphaa.AM
open Go

theorem ACalls.insert {P : Program} {f : FuncId} {α : Type} {row : α → List AV} {k : Nat} (hrow : ∀ (n : Nat) (l : List α), AV.bddss n (l.map row) = true) {l : List α} {x : α} {g i : Nat} (hi : i ≤ l.length)
    (hE : ACalls P f [.osl 0 g k 0 l.length, .int .i64 (l.length : Int), .sl .clip k [row x]] [⟨g, k, l.map row, none⟩] (.osl 0 (g + 1) k 0 (l.length + 1), [⟨g + 1, k, (l ++ [x]).map row, none⟩]))
    (hG : i < l.length → ∀ r, r < l.length + 1 → ACalls P f [.osl 0 g k 0 l.length, .int .i64 (i : Int), .sl .clip k [row x]] [⟨g, k, l.map row, some r⟩] (.osl 1 0 k 0 (l.length + 1), [⟨g, k, l.map row, some r⟩, ⟨0, k, (l.take i ++ x :: l.drop i).map row, none⟩]))
    (hR : i < l.length → ∀ r, l.length + 1 ≤ r → ACalls P f [.osl 0 g k 0 l.length, .int .i64 (i : Int), .sl .clip k [row x]] [⟨g, k, l.map row, some r⟩] (.osl 0 g k 0 (l.length + 1), [⟨g, k, (l.take i ++ x :: l.drop i).map row, some r⟩])) :
    ACalls P f [.osl 0 g k 0 l.length, .int .i64 (i : Int), .sl .clip k [row x]] [⟨g, k, l.map row, none⟩] (.osl 0 (g + 1) k 0 (l.length + 1), [⟨g + 1, k, (l.take i ++ x :: l.drop i).map row, none⟩]) := by
  by_cases hil : i = l.length
  · subst hil
    rw [List.take_length, List.drop_length]
    exact hE
  have hlt : i < l.length := by omega
  refine ACalls.room (id := 0) (i := 0) (g := g) (k := k) (e := 0) (n := l.length) (els := l.map row) rfl rfl fun r hr => ?_
  show ACalls P f _ [⟨g, k, l.map row, some r⟩] _
  have hlen : (l.take i ++ x :: l.drop i).length = l.length + 1 := by simp; omega
  rcases Nat.lt_or_ge r (l.length + 1) with h | h
  · have h1 := (hG hlt r h).ghost (i := 0) (id := 0) (g := g) (x := .osl 0 g k 0 l.length) (a' := .osl 0 (g + 1) k 0 (l.length + 1)) (H2 := [⟨g + 1, k, (l.take i ++ x :: l.drop i).map row, none⟩] ++ [⟨1, k, [], none⟩]) rfl (.inr ⟨_, _, _, rfl⟩) rfl rfl rfl rfl
      fun G w C v hH hv hl => steal_sound (id := 0) (j := 1) (g := g) (gj := 0) hH (by decide) rfl rfl rfl rfl hv hl
    refine h1.forget rfl rfl fun id o ho => .inr ?_
    cases id with
    | zero =>
      simp only [List.getElem?_cons_zero, Option.some.injEq] at ho
      subst ho
      exact hrow _ _
    | succ id => simp at ho
  · have h1 := (hR hlt r h).ghost0 (a' := .osl 0 (g + 1) k 0 (l.length + 1)) (H2 := [⟨g + 1, k, (l.take i ++ x :: l.drop i).map row, some r⟩]) fun G w C v hH hv => by
      obtain ⟨C', q⟩ := gen_sound hH hv (o := ⟨g, k, (l.take i ++ x :: l.drop i).map row, some r⟩) rfl rfl (Nat.le_succ g)
      exact ⟨G, C', q⟩
    have h2 := h1.shrink (m := l.length + 1) rfl
    have e : ((l.take i ++ x :: l.drop i).map row).take (l.length + 1) = (l.take i ++ x :: l.drop i).map row := List.take_of_length_le (by rw [List.length_map]; omega)
    rw [e] at h2
    exact h2
theorem ACalls.delete {P : Program} {f : FuncId} {args : List AV} {H : Heap} {g k n : Nat} {els els' : List (List AV)} (h : ACalls P f args H (.osl 0 g k 0 n, [⟨g, k, els, none⟩])) (he : els.take n = els') : ACalls P f args H (.osl 0 g k 0 n, [⟨g, k, els', none⟩]) := by
  have := h.shrink (m := n) rfl
  rw [he] at this
  exact this
end Go.Proofs.Ytpkgpldgoajphaa.AM

set_option linter.unusedVariables false
set_option linter.unusedSimpArgs false
namespace Go.Proofs.Ytpkgpldgoajphaa.AM
open Go

def AV.scalss (els : List (List AV)) : Bool := els.all fun r => r.all AV.scal
theorem scalss_get {els : List (List AV)} (h : AV.scalss els = true) {i j : Nat} (hi : i < els.length) (hj : j < (els.getD i []).length) : ((els.getD i []).getD j .skip).scal = true := by
  have h1 : els.getD i [] ∈ els := by
    rw [List.getD_eq_getElem?_getD, List.getElem?_eq_getElem hi]; exact List.getElem_mem _
  have h3 := List.all_eq_true.1 h _ h1
  generalize els.getD i [] = r at hj h3 ⊢
  have h2 : r.getD j .skip ∈ r := by
    rw [List.getD_eq_getElem?_getD, List.getElem?_eq_getElem hj]; exact List.getElem_mem _
  exact List.all_eq_true.1 h3 _ h2
theorem scalss_map {α : Type} {row : α → List AV} (h : ∀ x, (row x).all AV.scal = true) (l : List α) : AV.scalss (l.map row) = true := by
  unfold AV.scalss
  rw [List.all_eq_true]
  intro r hr
  obtain ⟨x, _, rfl⟩ := List.mem_map.1 hr
  exact h x
theorem ACalls.borrow_osl {P : Program} {f : FuncId} {args args' : List AV} {g k n : Nat} {o : Ob} (h : ACalls P f args [] (.osl 0 g k 0 n, [o])) (ho : AV.scalss o.els = true) {H : Heap} (hb : Brs H args' args) : ACalls P f args' H (.osl H.length g k 0 n, H ++ [o]) := by
  intro G w C vs hsz hargs hH
  obtain ⟨hlen, hbr⟩ := Brs.get hb
  have key : ∀ i, i < args.length → VR (fun b => G b ∨ ∃ id l, C.ι id = some l ∧ l.b = some b) w Cx.none (args.getD i .skip) (vs.getD i undef) := by
    intro i hi
    have hv := hargs i (by omega)
    rcases hbr i hi with ⟨e, h0⟩ | ⟨id, g, k, e, n, rows, h1, h2, h3, h4⟩
    · rw [e] at hv
      have := hv.cut 0 h0
      rw [cut_zero] at this
      exact this.mono (fun b hb => .inl hb) (fun _ _ => rfl) (CxLe.refl _)
    · rw [h1] at hv
      rw [h2]
      obtain ⟨G', C', e1, e2, e3, _⟩ := freeze_sound hH hv h3 h4
      have := e3.cut 0 rfl
      rw [cut_zero] at this
      refine this.mono (fun b hb => ?_) (fun _ _ => rfl) (CxLe.refl _)
      rcases e1.grow b hb with h5 | h5 | h5
      · exact .inl h5
      · exact .inr h5
      · have := e2.gsz b hb; omega
  refine (h _ w Cx.none vs (by omega) key
    ⟨fun id o ho => by simp at ho, fun id _ => ⟨rfl, rfl⟩, fun id l b hl => by simp [Cx.none] at hl, fun i j l l' b hl => by simp [Cx.none] at hl, fun id o l ho => by simp at ho,
      fun b hb => hb.elim (hH.gsz b) fun ⟨id, l, h1, h2⟩ => (hH.own id l b h1 h2).1⟩).mono fun v w' ⟨G2, C2, he, hh, hv, hp⟩ => ?_
  have hall : ∀ b, b < w.heap.size → w'.heap[b]? = w.heap[b]? := fun b hb => he.rest b hb fun id l hl => by simp [Cx.none] at hl
  obtain ⟨hγn, hιn⟩ := hH.out H.length (Nat.le_refl _)
  have hnew : ∀ l b, C2.ι 0 = some l → l.b = some b → w.heap.size ≤ b := fun l b hl hb => by
    rcases he.own 0 l b hl hb with ⟨j, m, hm, _⟩ | h1
    · simp [Cx.none] at hm
    · exact h1
  have hC1 : (C.lay H.length (C2.ι 0) (C2.γ 0)).ι H.length = C2.ι 0 := Cx.lay_ι ..
  have hC2 : (C.lay H.length (C2.ι 0) (C2.γ 0)).γ H.length = C2.γ 0 := Cx.lay_γ ..
  have hC3 : ∀ j, j ≠ H.length → (C.lay H.length (C2.ι 0) (C2.γ 0)).ι j = C.ι j ∧ (C.lay H.length (C2.ι 0) (C2.γ 0)).γ j = C.γ j := fun j hj => Cx.lay_ne _ _ _ _ hj
  generalize C.lay H.length (C2.ι 0) (C2.γ 0) = C' at hC1 hC2 hC3
  have hcx : CxLe C C' := fun j => by
    by_cases hj : j = H.length
    · subst hj; rw [hC2, hγn, hC1, hιn]; exact ⟨Nat.zero_le _, fun _ l hl => by simp at hl⟩
    · rw [(hC3 j hj).1, (hC3 j hj).2]; exact ⟨Nat.le_refl _, fun _ l hl => hl⟩
  have hev : Ev G w C G w' C' := ⟨he.os, he.tape, he.output, he.size, fun _ h => h, fun b hb => hall b (hH.gsz b hb), hcx, fun b hb _ => hall b hb, fun _ h => .inl h, fun id l b h1 h2 => by
    by_cases hj : id = H.length
    · subst hj; rw [hC1] at h1; exact .inr (hnew l b h1 h2)
    · rw [(hC3 id hj).1] at h1; exact .inl ⟨id, l, h1, h2⟩, he.frz⟩
  have hget : ∀ (j : Nat) (oj : Ob), (H ++ [o])[j]? = some oj → (j < H.length ∧ H[j]? = some oj) ∨ (j = H.length ∧ oj = o) := fun j oj hj => by
    rcases Nat.lt_or_ge j H.length with h' | h'
    · rw [List.getElem?_append_left h'] at hj; exact .inl ⟨h', hj⟩
    · have := heap_lt hj
      simp at this
      obtain rfl : j = H.length := by omega
      simp at hj
      exact .inr ⟨rfl, hj.symm⟩
  refine ⟨G, C', hev, ⟨fun j oj hj => ?_, fun j hj => ?_, fun j l b hl hlb => ?_, fun i j l l' b hi hj hb hb' => ?_, fun j oj l hj hl => ?_, fun b hb => Nat.lt_of_lt_of_le (hH.gsz b hb) he.size⟩, ?_, by simp, fun j hj _ hιj => ?_⟩
  · rcases hget j oj hj with ⟨h1, h2⟩ | ⟨rfl, rfl⟩
    · rw [(hC3 j (by omega)).2]; exact hH.gen j oj h2
    · rw [hC2]; exact hh.gen 0 oj rfl
  · simp only [List.length_append, List.length_singleton] at hj
    rw [(hC3 j (by omega)).1, (hC3 j (by omega)).2]; exact hH.out j (by omega)
  · by_cases hj : j = H.length
    · subst hj; rw [hC1] at hl
      obtain ⟨q1, q2⟩ := hh.own 0 l b hl hlb
      exact ⟨q1, fun hg => q2 (he.lock b (.inl hg))⟩
    · rw [(hC3 j hj).1] at hl
      obtain ⟨q1, q2⟩ := hH.own j l b hl hlb
      exact ⟨Nat.lt_of_lt_of_le q1 he.size, q2⟩
  · by_cases h1 : i = H.length <;> by_cases h2 : j = H.length
    · omega
    · subst h1; rw [hC1] at hi; rw [(hC3 j h2).1] at hj
      have := hnew l b hi hb; have := (hH.own j l' b hj hb').1; omega
    · subst h2; rw [hC1] at hj; rw [(hC3 i h1).1] at hi
      have := hnew l' b hj hb'; have := (hH.own i l b hi hb).1; omega
    · rw [(hC3 i h1).1] at hi; rw [(hC3 j h2).1] at hj
      exact hH.inj i j l l' b hi hj hb hb'
  · rcases hget j oj hj with ⟨h1, h2⟩ | ⟨rfl, rfl⟩
    · rw [(hC3 j (by omega)).1] at hl
      exact (hH.ob j oj l h2 hl).ev hev fun b hb => hall b (hH.own j l b hl hb).1
    · rw [hC1] at hl
      have hob := hh.ob 0 oj l rfl hl
      refine ⟨hob.k, hob.rm, hob.no, hob.len, hob.row, fun b hb => ?_⟩
      obtain ⟨cs, et, q1, q2, q3⟩ := hob.cells b hb
      exact ⟨cs, et, q1, q2, fun i j hi hj => ⟨(q3 i j hi hj).1, (q3 i j hi hj).2.scal (scalss_get ho hi (by rw [hob.row i hi]; exact hj))⟩⟩
  · cases hv with
    | osl _ _ _ _ _ _ ad cap hnc hle hl =>
      refine .osl _ _ _ _ _ _ _ _ hnc (by rw [hC2]; exact hle) fun hg => ?_
      rw [hC2] at hg
      rw [hC1]
      exact hl hg
    | osl0 _ _ _ _ _ base hle hl =>
      refine .osl0 _ _ _ _ _ _ (by rw [hC2]; exact hle) fun hg => ?_
      rw [hC2] at hg
      rw [hC1]
      exact hl hg
  · rw [(hC3 j (by omega)).1, (hC3 j (by omega)).2, List.getElem?_append_left hj]
    exact ⟨hιj, rfl, rfl⟩
end Go.Proofs.Ytpkgpldgoajphaa.AM

set_option linter.unusedVariables false
set_option linter.unusedSimpArgs false
namespace Go.Proofs.Ytpkgpldgoajphaa.AM
open Go

theorem wk_cell_sound {G : Nat → Prop} {w : World} {C : Cx} {H : Heap} (hH : HR G w C H) {id e c : Nat} {o : Ob} {a a' : AV} {v : Value} (ho : H[id]? = some o) (he : e < o.els.length) (hc : c < (o.els.getD e []).length)
    (hcell : AV.wk ((o.els.getD e []).getD c .skip) a') (hv : VR G w C a v) (hl : ∃ l, C.ι id = some l) :
    ∃ G' C', Ev G w C G' w C' ∧ HR G' w C' (H.set id { o with els := o.els.set e ((o.els.getD e []).set c a') }) ∧ VR G' w C' a v ∧ Pd AnyId C H C' (H.set id { o with els := o.els.set e ((o.els.getD e []).set c a') }) := by
  obtain ⟨l, hl⟩ := hl
  obtain ⟨b, cs, et, h1, h2, h3⟩ := hH.get_cell ho hl he hc
  refine ⟨G, C, Ev.refl .., hH.set_cell ho hl h1 h2 (h3.wk hcell), hv, by simp, fun j hj hs hi => ⟨hi, rfl, ?_⟩⟩
  have hne' : id ≠ j := fun e => by subst e; rw [hl] at hi; simp at hi
  exact List.getElem?_set_ne hne'
/-- A slice that a function has laid into a field of its first argument's object is frozen. -/
theorem ACalls.frzField {P : Program} {f : FuncId} {args : List AV} {r a : AV} {o0 : Ob} {k g2 n : Nat} {els els' : List (List AV)} (h : ACalls P f args [o0] (r, [⟨0, 2, [[a, .osl 1 g2 k 0 n]], none⟩, ⟨g2, k, els, none⟩])) (h0 : args[0]? = some (.obj 0 0 0 0)) (hg0 : o0.gen = 0)
    (hn : n = els.length) (hb : AV.bddss 0 els = true) (ha : AV.bdd 1 a = true) (hr : r.bdd 1 = true) (he : els = els') : ACalls P f args [o0] (r, [⟨0, 2, [[a, .sl .any k els']], none⟩]) := by
  subst he
  have h1 := h.ghost (i := 0) (id := 0) (g := 0) (x := .obj 0 0 0 0) (o := o0) (a' := r) (H2 := [⟨0, 2, [[a, .sl .any k els]], none⟩] ++ [⟨g2 + 1, k, [], none⟩]) h0 (.inl ⟨_, _, rfl⟩) rfl hg0 rfl rfl
    fun G w C v hH hv hl => frz_cell_sound (id := 0) (e := 0) (c := 1) (id2 := 1) (g2 := g2) (k := k) (e2 := 0) (n2 := n) (xs := els) (o := ⟨0, 2, [[a, .osl 1 g2 k 0 n]], none⟩) hH rfl (by decide) (by simp) (by simp) rfl (by simp [rowsIn, hn]) hb hv hl
  refine h1.forget rfl hr fun id o ho => .inr ?_
  cases id with
  | zero =>
    simp only [List.getElem?_cons_zero, Option.some.injEq] at ho
    subst ho
    simp [AV.bddss, AV.bdds, ha, AV.bdd]
  | succ id => simp at ho
/-- A nil slice in a field of an object that a function has made is made exclusive. -/
theorem ACalls.virField {P : Program} {f : FuncId} {args : List AV} {a : AV} {k k0 : Nat} (h : ACalls P f args [] (.obj 0 0 0 0, [⟨0, 2, [[a, .sl .nil k0 []]], none⟩])) : ACalls P f args [] (.obj 0 0 0 0, [⟨0, 2, [[a, .osl 1 0 k 0 0]], none⟩, ⟨0, k, [], none⟩]) :=
  h.ghost0 fun G w C v hH hv => vir_cell_sound (id := 0) (e := 0) (c := 1) (k0 := k0) (o := ⟨0, 2, [[a, .sl .nil k0 []]], none⟩) hH k rfl (by simp) (by simp) rfl hv (VR.shows hv (id := 0) (g := 0) (.inl ⟨_, _, rfl⟩) (by simpa using hH.gen 0 _ rfl))
theorem ACalls.wkField {P : Program} {f : FuncId} {args : List AV} {a x y : AV} (h : ACalls P f args [] (.obj 0 0 0 0, [⟨0, 2, [[a, x]], none⟩])) (hw : AV.wk x y) : ACalls P f args [] (.obj 0 0 0 0, [⟨0, 2, [[a, y]], none⟩]) :=
  h.ghost0 fun G w C v hH hv => wk_cell_sound (id := 0) (e := 0) (c := 1) (o := ⟨0, 2, [[a, x]], none⟩) hH rfl (by simp) (by simp) hw hv (VR.shows hv (id := 0) (g := 0) (.inl ⟨_, _, rfl⟩) (by simpa using hH.gen 0 _ rfl))
end Go.Proofs.Ytpkgpldgoajphaa.AM

set_option linter.unusedVariables false
set_option linter.unusedSimpArgs false
namespace Go.Proofs.Ytpkgpldgoajphaa.AM
open Go

def convO (o : Oper) : Operand := match o.op with
  | .convert _ _ x => x
  | _ => .tmp 0
theorem sat_rune {P : Program} {X : Env} {F : Fr} {H : Heap} {ar : Nat} {o : Oper} (hT : TOk P X.T) {src dst' : TypeId} {ts td : TI} {k : IntKind} {n : Int} (hop : o.op = .convert src dst' (convO o)) (hsem : isSem X o = true) (hs : X.T src = some ts) (hsd : ts.d = .int k) (hd : X.T dst' = some td) (hdd : td.d = .string)
    (hx : opv F (convO o) = some (.int k n)) : Sat P X F H ar o (.str (Utf8.encode n)) H := by
  refine Sat.sem hsem ?_
  obtain ⟨dst, op, type, pos, after, guard⟩ := o
  simp only at hop
  generalize convO _ = x at hop hx
  subst hop
  intro G w C f hf hH
  have hv := hf x (by simp [Op.operands]) _ hx
  generalize hu : f x = u at hv
  cases hv
  have h1 := tok_int hT hs hsd
  have h2 : P.underlying dst' = some .string := by
    have := (hT _ _ hd).und
    rw [hdd] at this
    exact this
  have hr : (Go.convert src dst' (f x)).run P w = .ok (.string (Utf8.encode n)) w := by
    rw [hu]
    simp [Go.convert, run_underlying h1, run_underlying h2, Conv.intToString]
  exact ⟨_, w, by simp [execOp, hr], G, C, Ev.refl .., hH, .str .., Pd.refl⟩
end Go.Proofs.Ytpkgpldgoajphaa.AM

set_option linter.unusedVariables false
set_option linter.unusedSimpArgs false
namespace Go.Proofs.Ytpkgpldgoajphaa.AM
open Go
section
variable {G : Nat → Prop} {w : World} {C : Cx} {H : Heap}
theorem clip_sound (hH : HR G w C H) {id g k n cap : Nat} {base : Option Addr} {els : List (List AV)} {room : Option Nat} (hv : VR G w C (.osl id g k 0 n) (.slice base n cap)) (ho : H[id]? = some ⟨g, k, els, room⟩) (hn : n = els.length) :
    ∃ C', Ev G w C G w C' ∧ HR G w C' (H.set id ⟨g + 1, k, els, none⟩) ∧ VR G w C' (.osl id (g + 1) k 0 n) (.slice base n n) ∧ Pd AnyId C H C' (H.set id ⟨g + 1, k, els, none⟩) := by
  have hγ := hH.gen id _ ho
  simp only at hγ
  obtain ⟨l, hι, hlk⟩ := osl_alive hv hγ
  have hlt := hH.lt hι
  have hCle : CxLe C (C.lay id (some ⟨l.b, l.sh, l.k, n⟩) (g + 1)) := fun j => by
    by_cases e' : j = id
    · subst e'
      rw [Cx.lay_γ, Cx.lay_ι]
      exact ⟨by omega, fun e => by omega⟩
    · rw [(Cx.lay_ne _ _ _ _ e').1, (Cx.lay_ne _ _ _ _ e').2]; exact ⟨Nat.le_refl _, fun _ _ h => h⟩
  have hHH := hH.upd (G' := G) (w' := w) (C' := C.lay id (some ⟨l.b, l.sh, l.k, n⟩) (g + 1)) (H' := H.set id ⟨g + 1, k, els, none⟩) id ⟨g + 1, k, els, none⟩ rfl rfl rfl
    (fun j hj => Cx.lay_ne _ _ _ _ hj) (by rw [Cx.lay_γ]; omega) (fun e => by rw [Cx.lay_γ] at e; omega) (fun j hj => by rw [List.getElem?_set_ne (Ne.symm hj)]) (by rw [List.getElem?_set_self hlt]) (by simp) (by omega)
    (by rw [Cx.lay_γ]) (fun _ h => h) (fun b hb => .inl hb) (fun _ _ _ => rfl) (Nat.le_refl _) (fun b hb => hH.gsz b hb) (fun l' b hl' hb => by rw [Cx.lay_ι] at hl'; simp at hl'; subst hl'; exact .inl ⟨l, hι, hb⟩) (fun _ => rfl)
    (fun l' hl' => by
      rw [Cx.lay_ι] at hl'
      simp only [Option.some.injEq] at hl'
      subst hl'
      obtain ⟨hk, hrm, hno, hlen, hrow, hcs⟩ := hH.ob id _ l ho hι
      simp only at hk hlen hrow
      refine ⟨fun b hb => ⟨(hH.own id l b hι hb).1, (hH.own id l b hι hb).2, fun j hj l2 hl2 e' => hj (hH.inj _ _ _ _ b hl2 hι e' hb)⟩, hk, fun r hr => by simp at hr, fun hb => by have := hno hb; simp only; omega, by simp only; omega, hrow, fun b hb => ?_⟩
      obtain ⟨cs, t, hc, hcs, hcell⟩ := hcs b hb
      refine ⟨cs, t, hc, ?_, fun i j hi hj => ⟨(hcell i j hi hj).1, (hcell i j hi hj).2.mono (fun _ h => h) (fun _ _ => rfl) hCle⟩⟩
      have : n * l.k ≤ l.room * l.k := Nat.mul_le_mul_right _ (by omega)
      simp only
      omega)
  refine ⟨_, hHH.1, hHH.2, ?_, ⟨by simp, fun j hj _ hi => ?_⟩⟩
  · cases hv with
    | osl _ _ _ _ _ _ ad cap hnc hle hl =>
      refine .osl _ _ _ _ _ _ _ _ (Nat.le_refl _) (by rw [Cx.lay_γ]; exact Nat.le_refl _) fun _ => ?_
      rw [Cx.lay_ι]
      obtain ⟨l2, b, h, h1, h2, h3, h4, h5⟩ := hl (by omega)
      rw [hι] at h; simp only [Option.some.injEq] at h; subst h
      exact ⟨_, b, rfl, h1, h2, by simp, by simp, fun h => h5 (by simp only at h; omega)⟩
    | osl0 _ _ _ _ _ base hle hl =>
      refine .osl0 _ _ _ _ _ _ (by rw [Cx.lay_γ]; exact Nat.le_refl _) fun _ => ?_
      rw [Cx.lay_ι]
      obtain ⟨l2, h, hr, hr2⟩ := hl (by omega)
      rw [hι] at h; simp only [Option.some.injEq] at h; subst h
      exact ⟨_, rfl, hr, hr2⟩
  · have hne : j ≠ id := fun e => by subst e; rw [hι] at hi; simp at hi
    exact ⟨by rw [(Cx.lay_ne _ _ _ _ hne).1]; exact hi, (Cx.lay_ne _ _ _ _ hne).2, by rw [List.getElem?_set_ne (Ne.symm hne)]⟩
end
theorem ssem_clip {P : Program} {F : Fr} {H : Heap} {dst : Option Tmp} {x y m : Operand} {t e0 : TypeId} {type : TypeId} {pos : String} {after : Array Edge} {guard : Option (Nat × Bool)} {id g k n : Nat} {els : List (List AV)} {room : Option Nat}
    (ht : P.underlying t = some (.slice e0)) (hk : ∀ w : World, (Go.sizeOf e0).run P w = .ok k w) (hx : opv F x = some (.osl id g k 0 n)) (ho : H[id]? = some ⟨g, k, els, room⟩) (hn : n = els.length)
    (hhi : optInt F (some y) 0 = some (n : Int)) (hmx : optInt F (some m) 0 = some (n : Int)) :
    SSem P F H ⟨dst, .slice t x none (some y) (some m), type, pos, after, guard⟩ (.osl id (g + 1) k 0 n, H.set id ⟨g + 1, k, els, none⟩) := by
  intro G w C f hf hH
  have hv := hf x (by simp [Op.operands]) _ hx
  have hh := optInt_f (G := G) (w := w) (C := C) (f := f) hhi fun z hz a ha => hf z (by simp [Op.operands]; simp at hz; simp [hz]) a ha
  have hm := optInt_f (G := G) (w := w) (C := C) (f := f) hmx fun z hz a ha => hf z (by simp [Op.operands]; simp at hz; simp [hz]) a ha
  have hb : ∀ len cap : Nat, n ≤ cap → (Instr.sliceBounds true len cap none (some (f y)) (some (f m))).run P w = .ok (0, n, n) w := by
    intro len cap hc
    rcases hm with ⟨hm, _⟩ | ⟨z, kz, hz, hfm⟩
    · simp at hm
    · simp only [Option.some.injEq] at hz
      subst hz
      rcases hh with ⟨hh, _⟩ | ⟨z, kz, hz, hfz⟩
      · simp at hh
      · simp only [Option.some.injEq] at hz
        subst hz
        simp [Instr.sliceBounds, hfz, hfm, run_sliceBound, hc]
  have fin : ∀ base cap, f x = .slice base n cap → n ≤ cap → VR G w C (.osl id g k 0 n) (.slice base n cap) →
      ∃ v w', (execOp f (⟨dst, .slice t x none (some y) (some m), type, pos, after, guard⟩ : Oper)).run P w = .ok (.value v) w' ∧ After G w C H (.osl id (g + 1) k 0 n, H.set id ⟨g + 1, k, els, none⟩) v w' := by
    intro base cap hu hcap hv
    have hr : (Instr.sliceAt t (f x) none (some (f y)) (some (f m))).run P w = .ok (.slice base n n) w := by
      rw [hu]
      simp only [Instr.sliceAt, Instr.slice, Sem.run_bind, run_underlying ht, Result.andThen_ok]
      rw [hb n cap (by omega)]
      simp only [Result.andThen_ok, hk w, Sem.run_pure, Sem.run_bind, Nat.sub_zero, Nat.zero_mul]
      congr 2
      split
      · rfl
      · cases base <;> simp [Addr.add]
    obtain ⟨C', h1, h2, h3, h4⟩ := clip_sound hH hv ho hn
    refine ⟨.slice base n n, w, ?_, G, C', h1, h2, h3, h4⟩
    simp only [execOp, Option.map_some, Option.map_none, Sem.run_bind, hr, Result.andThen_ok, Sem.run_pure]
  generalize hu : f x = u at hv
  cases hv with
  | osl _ _ _ _ _ _ ad cap hnc hle h => exact fin _ _ hu hnc (.osl _ _ _ _ _ _ ad cap hnc hle h)
  | osl0 _ _ _ _ _ base hle h => exact fin _ _ hu (Nat.le_refl _) (.osl0 _ _ _ _ _ base hle h)
theorem sat_clip {P : Program} {X : Env} {F : Fr} {H H2 : Heap} {ar : Nat} {o : Oper} (hT : TOk P X.T) {t e0 : TypeId} {ti te : TI} (hop : o.op = .slice t (argO o 0) none (some (hiO o)) (some (mxO o))) (hsem : isSem X o = true) (ht : X.T t = some ti) (htd : ti.d = .slice e0) (hte : X.T e0 = some te)
    {id g k n : Nat} {els : List (List AV)} {room : Option Nat} (hk : te.size = k) (hx : opv F (argO o 0) = some (.osl id g k 0 n)) (ho : H[id]? = some ⟨g, k, els, room⟩) (hn : n = els.length) (hhi : optInt F (some (hiO o)) 0 = some (n : Int)) (hmx : optInt F (some (mxO o)) 0 = some (n : Int)) (hH : H.set id ⟨g + 1, k, els, none⟩ = H2) :
    Sat P X F H ar o (.osl id (g + 1) k 0 n) H2 := by
  refine Sat.sem hsem ?_
  subst hk hH
  obtain ⟨dst, op, type, pos, after, guard⟩ := o
  simp only at hop
  generalize argO _ 0 = x at hop hx
  generalize hiO _ = hi at hop hhi
  generalize mxO _ = mx at hop hmx
  subst hop
  exact ssem_clip (tok_slice hT ht htd) (fun w => (hT _ _ hte).sizeOf w) hx ho hn hhi hmx
end Go.Proofs.Ytpkgpldgoajphaa.AM
