/-
  Texts of this claim, part 4 of 7: an abstract machine over the model; what functions come to; plain laws.
-/
import Derived.Test.YtcmfnfkahdconaaMMergeNumbers3
set_option maxRecDepth 100000
set_option linter.unusedVariables false
set_option linter.unusedSimpArgs false
namespace Go.Proofs.Ytcmfnfkahdconaa.AM
open Go Go.Proofs.Ytcmfnfkahdconaa
attribute [local irreducible] ACalls funT codeT codeQ LoopTo
def charOk (c : Int) : Bool := (decide (97 ≤ c) && decide (c ≤ 122)) || (decide (48 ≤ c) && decide (c ≤ 57))
def nameB (tx : ByteArray) : Bool := decide (0 < tx.size) && (decide (tx.size ≤ 16) && (strL tx).all charOk)
theorem all_nth {l : List Int} {f : Int → Bool} (h : l.all f = true) {j : Nat} (hj : j < l.length) : f (nth l j) = true := by
  rw [List.all_eq_true] at h
  have := nth_get hj
  exact h _ (List.mem_of_getElem? this)
theorem all_no {l : List Int} {f : Int → Bool} (h : l.all f = false) : ∃ j, j < l.length ∧ f (nth l j) = false := by
  rw [List.all_eq_false] at h
  obtain ⟨x, hx, h2⟩ := h
  obtain ⟨j, hj, e⟩ := List.getElem_of_mem hx
  exact ⟨j, hj, by rw [nth_eq (by rw [List.getElem?_eq_getElem hj, e]) ]; simpa using h2⟩
def nm_ann : Ann := { big := [20], fin := some 0, live := [(4, [0, 2, 13, 14, 15])], out := [(4, [0, 2])] }
@[simp] abbrev Wi_1 (v1_ : ByteArray) (v2_ : Nat) : Fr := (mkF 36 [(0, (AV.str v1_)), (2, (AV.bool false)), (13, (AV.str v1_)), (14, (AV.int .i64 ((v1_.size : Nat) : Int))), (15, (AV.int .i64 ((v2_ + 1 : Nat) : Int)))])
@[simp] abbrev Wi_2 (v1_ : ByteArray) (v2_ : Nat) : Fr := (mkF 36 [(0, (AV.str v1_)), (2, (AV.bool false)), (13, (AV.str v1_)), (14, (AV.int .i64 ((v1_.size : Nat) : Int))), (15, (AV.int .i64 ((v2_ : Nat) : Int)))])
set_option maxRecDepth 100000 in
theorem nm_step (tx : ByteArray) (i : Nat) (hs : tx.size < 100) (hi : i ≤ tx.size) {eX : Ex} {FX : Fr} {HX : Heap} (k1 : (decide (((i : Nat) : Int) < ((tx.size : Nat) : Int))) = true → (decide ((nth (strL tx) i) < 97)) = true → (decide ((nth (strL tx) i) < 48)) = true → ((.ret : Ex), (mkF 36 [(0, (.str tx)), (2, (.bool false))]), ([] : Heap)) = (eX, FX, HX)) (k2 : (decide (((i : Nat) : Int) < ((tx.size : Nat) : Int))) = true → (decide ((nth (strL tx) i) < 97)) = true → (decide ((nth (strL tx) i) < 48)) = false → (decide ((nth (strL tx) i) > 57)) = true → ((.ret : Ex), (mkF 36 [(0, (.str tx)), (2, (.bool false))]), ([] : Heap)) = (eX, FX, HX)) (k3 : (decide (((i : Nat) : Int) < ((tx.size : Nat) : Int))) = true → (decide ((nth (strL tx) i) < 97)) = true → (decide ((nth (strL tx) i) < 48)) = false → (decide ((nth (strL tx) i) > 57)) = false → LoopTo (codeQ Try.prog (X nm_ann) (loopOf Try.f124 0)) (some [0, 2, 13, 14, 15]) (some [0, 2]) (Wi_1 tx i) ([] : Heap) eX FX HX) (k4 : (decide (((i : Nat) : Int) < ((tx.size : Nat) : Int))) = true → (decide ((nth (strL tx) i) < 97)) = false → (decide ((nth (strL tx) i) > 122)) = true → (decide ((nth (strL tx) i) < 48)) = true → ((.ret : Ex), (mkF 36 [(0, (.str tx)), (2, (.bool false))]), ([] : Heap)) = (eX, FX, HX)) (k5 : (decide (((i : Nat) : Int) < ((tx.size : Nat) : Int))) = true → (decide ((nth (strL tx) i) < 97)) = false → (decide ((nth (strL tx) i) > 122)) = true → (decide ((nth (strL tx) i) < 48)) = false → (decide ((nth (strL tx) i) > 57)) = true → ((.ret : Ex), (mkF 36 [(0, (.str tx)), (2, (.bool false))]), ([] : Heap)) = (eX, FX, HX)) (k6 : (decide (((i : Nat) : Int) < ((tx.size : Nat) : Int))) = true → (decide ((nth (strL tx) i) < 97)) = false → (decide ((nth (strL tx) i) > 122)) = true → (decide ((nth (strL tx) i) < 48)) = false → (decide ((nth (strL tx) i) > 57)) = false → LoopTo (codeQ Try.prog (X nm_ann) (loopOf Try.f124 0)) (some [0, 2, 13, 14, 15]) (some [0, 2]) (Wi_1 tx i) ([] : Heap) eX FX HX) (k7 : (decide (((i : Nat) : Int) < ((tx.size : Nat) : Int))) = true → (decide ((nth (strL tx) i) < 97)) = false → (decide ((nth (strL tx) i) > 122)) = false → LoopTo (codeQ Try.prog (X nm_ann) (loopOf Try.f124 0)) (some [0, 2, 13, 14, 15]) (some [0, 2]) (Wi_1 tx i) ([] : Heap) eX FX HX) (k8 : (decide (((i : Nat) : Int) < ((tx.size : Nat) : Int))) = false → ((.exit 0 : Ex), (mkF 36 [(0, (.str tx)), (2, (.bool false))]), ([] : Heap)) = (eX, FX, HX)) : LoopTo (codeQ Try.prog (X nm_ann) (loopOf Try.f124 0)) (some [0, 2, 13, 14, 15]) (some [0, 2]) (Wi_2 tx i) ([] : Heap) eX FX HX :=
  stepO (.r (.g (.two (decide (((i : Nat) : Int) < ((tx.size : Nat) : Int))) (fun h1 h1' => (.r (.g (.r (.t 2 (AV.int .u8 (nth (strL tx) i)) ([] : Heap) (sat_index (xt := 9) (ts := { d := .string, size := 1, bytes := 16, zero := [.str ⟨#[]⟩] }) (i := ((i : Nat) : Int)) (n := i) ttOk kr kr kr rfl kr kr ow ow : Sat Try.prog (X nm_ann) (mkF 36 [(0, (AV.str tx)), (2, (AV.bool false)), (3, (AV.int .i64 ((i : Nat) : Int))), (13, (AV.str tx)), (14, (AV.int .i64 ((tx.size : Nat) : Int))), (15, (AV.int .i64 ((i : Nat) : Int))), (16, (AV.bool (decide (((i : Nat) : Int) < ((tx.size : Nat) : Int))))), (17, (AV.int .i64 ((i : Nat) : Int))), (18, (AV.str tx)), (19, (AV.int .i64 ((i : Nat) : Int)))]) ([] : Heap) 0 (opIn Try.f124 6 2) (AV.int .u8 (nth (strL tx) i)) ([] : Heap)) (.g (.r (.two (decide ((nth (strL tx) i) < 97)) (fun h2 h2' => (.yes (.yes (.yes (.yes (.two (decide ((nth (strL tx) i) < 48)) (fun h3 h3' => (.yes (.yes (.g (.yes (.r (.g (.l (k1 h1 h2 h3))))))))) (fun h3 h3' => (.no (.yes (.g (.two (decide ((nth (strL tx) i) > 57)) (fun h4 h4' => (.r (.g (.l (k2 h1 h2 h3 h4))))) (fun h4 h4' => (.r (.y 0 (.int .i64 (IntKind.i64.wrap (((i : Nat) : Int) + 1))) (AV.int .i64 ((i + 1 : Nat) : Int)) (Yes.add ow ow ow) (.g (.l (k3 h1 h2 h3 h4))))))))))))))))) (fun h2 h2' => (.no (.two (decide ((nth (strL tx) i) > 122)) (fun h3 h3' => (.yes (.yes (.two (decide ((nth (strL tx) i) < 48)) (fun h4 h4' => (.yes (.yes (.g (.yes (.r (.g (.l (k4 h1 h2 h3 h4))))))))) (fun h4 h4' => (.no (.yes (.g (.two (decide ((nth (strL tx) i) > 57)) (fun h5 h5' => (.r (.g (.l (k5 h1 h2 h3 h4 h5))))) (fun h5 h5' => (.r (.y 0 (.int .i64 (IntKind.i64.wrap (((i : Nat) : Int) + 1))) (AV.int .i64 ((i + 1 : Nat) : Int)) (Yes.add ow ow ow) (.g (.l (k6 h1 h2 h3 h4 h5))))))))))))))) (fun h3 h3' => (.no (.no (.no (.g (.no (.r (.y 0 (.int .i64 (IntKind.i64.wrap (((i : Nat) : Int) + 1))) (AV.int .i64 ((i + 1 : Nat) : Int)) (Yes.add ow ow ow) (.g (.l (k7 h1 h2 h3)))))))))))))))))))))) (fun h1 h1' => (.l (k8 h1))))))
theorem nm_good (tx : ByteArray) (hs : tx.size < 100) (r : Nat) : ∀ (i : Nat), i + r = tx.size → (∀ j, i ≤ j → j < tx.size → charOk (nth (strL tx) j) = true) →
    LoopTo (codeQ Try.prog (X nm_ann) (loopOf Try.f124 0)) (some [0, 2, 13, 14, 15]) (some [0, 2]) (Wi_2 tx i) ([] : Heap) (.exit 0) (mkF 36 [(0, (.str tx)), (2, (.bool false))]) ([] : Heap) := by
  induction r with
  | zero =>
    intro i hi hall
    refine nm_step tx i hs ow (fun h1 h2 h3 => absurd h1 (by simp; omega)) (fun h1 h2 h3 h4 => absurd h1 (by simp; omega)) (fun h1 h2 h3 h4 => absurd h1 (by simp; omega)) (fun h1 h2 h3 h4 => absurd h1 (by simp; omega)) (fun h1 h2 h3 h4 h5 => absurd h1 (by simp; omega)) (fun h1 h2 h3 h4 h5 => absurd h1 (by simp; omega)) (fun h1 h2 h3 => absurd h1 (by simp; omega)) (fun h1 => rfl)
  | succ r ih =>
    intro i hi hall
    refine nm_step tx i hs ow (fun h1 h2 h3 => absurd (hall i (Nat.le_refl _) ow) (by rw [(show charOk (nth (strL tx) i) = false by simp only [decide_eq_true_eq, decide_eq_false_iff_not] at h1 h2 h3; simp [charOk]; omega)]; simp)) (fun h1 h2 h3 h4 => absurd (hall i (Nat.le_refl _) ow) (by rw [(show charOk (nth (strL tx) i) = false by simp only [decide_eq_true_eq, decide_eq_false_iff_not] at h1 h2 h3 h4; simp [charOk]; omega)]; simp)) (fun h1 h2 h3 h4 => ih (i + 1) ow (fun j hj hj2 => hall j ow hj2)) (fun h1 h2 h3 h4 => absurd (hall i (Nat.le_refl _) ow) (by rw [(show charOk (nth (strL tx) i) = false by simp only [decide_eq_true_eq, decide_eq_false_iff_not] at h1 h2 h3 h4; simp [charOk]; omega)]; simp)) (fun h1 h2 h3 h4 h5 => absurd (hall i (Nat.le_refl _) ow) (by rw [(show charOk (nth (strL tx) i) = false by simp only [decide_eq_true_eq, decide_eq_false_iff_not] at h1 h2 h3 h4 h5; simp [charOk]; omega)]; simp)) (fun h1 h2 h3 h4 h5 => ih (i + 1) ow (fun j hj hj2 => hall j ow hj2)) (fun h1 h2 h3 => ih (i + 1) ow (fun j hj hj2 => hall j ow hj2)) (fun h1 => absurd h1 (by simp; omega))
theorem nm_bad (tx : ByteArray) (hs : tx.size < 100) (r : Nat) : ∀ (i : Nat), i + r = tx.size → (∃ j, i ≤ j ∧ j < tx.size ∧ charOk (nth (strL tx) j) = false) →
    LoopTo (codeQ Try.prog (X nm_ann) (loopOf Try.f124 0)) (some [0, 2, 13, 14, 15]) (some [0, 2]) (Wi_2 tx i) ([] : Heap) (.ret) (mkF 36 [(0, (.str tx)), (2, (.bool false))]) ([] : Heap) := by
  induction r with
  | zero =>
    intro i hi hex
    obtain ⟨j, hj1, hj2, _⟩ := hex
    omega
  | succ r ih =>
    intro i hi hex
    refine nm_step tx i hs ow (fun h1 h2 h3 => rfl) (fun h1 h2 h3 h4 => rfl) (fun h1 h2 h3 h4 => (by
      obtain ⟨j, hj1, hj2, hj3⟩ := hex
      have hne : j ≠ i := fun e => by rw [e, (show charOk (nth (strL tx) i) = true by simp only [decide_eq_true_eq, decide_eq_false_iff_not] at h1 h2 h3 h4; simp [charOk]; omega)] at hj3; simp at hj3
      exact ih (i + 1) ow ⟨j, by omega, hj2, hj3⟩)) (fun h1 h2 h3 h4 => rfl) (fun h1 h2 h3 h4 h5 => rfl) (fun h1 h2 h3 h4 h5 => (by
      obtain ⟨j, hj1, hj2, hj3⟩ := hex
      have hne : j ≠ i := fun e => by rw [e, (show charOk (nth (strL tx) i) = true by simp only [decide_eq_true_eq, decide_eq_false_iff_not] at h1 h2 h3 h4 h5; simp [charOk]; omega)] at hj3; simp at hj3
      exact ih (i + 1) ow ⟨j, by omega, hj2, hj3⟩)) (fun h1 h2 h3 => (by
      obtain ⟨j, hj1, hj2, hj3⟩ := hex
      have hne : j ≠ i := fun e => by rw [e, (show charOk (nth (strL tx) i) = true by simp only [decide_eq_true_eq, decide_eq_false_iff_not] at h1 h2 h3; simp [charOk]; omega)] at hj3; simp at hj3
      exact ih (i + 1) ow ⟨j, by omega, hj2, hj3⟩)) (fun h1 => absurd h1 (by simp; omega))
@[simp] abbrev Wi_3 (v1_ : ByteArray) : Fr := (mkF 36 [(0, (AV.str v1_)), (2, (AV.bool false)), (13, (AV.str v1_)), (14, (AV.int .i64 ((v1_.size : Nat) : Int))), (15, (AV.int .i64 0))])
set_option maxRecDepth 100000 in
theorem nameT_spec (tx : ByteArray) (hb : nameB tx = true) : ACalls Try.prog 124 [(.str tx)] ([] : Heap) ((AV.bool true), ([] : Heap)) := by
  have hB := hb
  simp only [nameB, Bool.and_eq_true, decide_eq_true_eq] at hB
  obtain ⟨q1, q2, q3⟩ := hB
  have hs : tx.size < 100 := by omega
  exact specO (fn := Try.f124) (ann := nm_ann) (Has.o Try.func124) (.r (.g (.r (.y 2 (AV.bool (((tx.size : Nat) : Int) == 0)) (AV.bool false) (Yes.bool (beq_eq_false_iff_ne.2 ow)) (.no (.no (.no (.y 6 (AV.bool (decide (((tx.size : Nat) : Int) > 16))) (AV.bool false) (Yes.bool (by simp; omega)) (.g (.no (.r (.g (.loop (mkF 36 [(0, (.str tx)), (2, (.bool false))]) (show LoopTo (codeQ Try.prog (X nm_ann) (loopOf Try.f124 0)) (some [0, 2, 13, 14, 15]) (some [0, 2]) (Wi_3 tx) ([] : Heap) (.exit 0) (mkF 36 [(0, (.str tx)), (2, (.bool false))]) ([] : Heap) from (nm_good tx hs tx.size 0 ow (fun j hj hj2 => all_nth q3 (by rw [strL_len]; exact hj2)))) (.r (.g (.f 0 (AV.bool true) (.e (AV.bool true))))))))))))))))))
set_option maxRecDepth 100000 in
theorem nameF_spec (tx : ByteArray) (hb : nameB tx = false) : ACalls Try.prog 124 [(.str tx)] ([] : Heap) ((AV.bool false), ([] : Heap)) :=
  specO (fn := Try.f124) (ann := nm_ann) (Has.o Try.func124) (.r (.g (.r (.two (((tx.size : Nat) : Int) == 0) (fun h1 h1' => (.yes (.yes (.g (.yes (.r (.g (.f 0 (AV.bool false) (.e (AV.bool false)))))))))) (fun h1 h1' => (.no (.no (.g (.two (decide (((tx.size : Nat) : Int) > 16)) (fun h2 h2' => (.r (.g (.f 0 (AV.bool false) (.e (AV.bool false)))))) (fun h2 h2' => (.r (.g (.loop (mkF 36 [(0, (.str tx)), (2, (.bool false))]) (show LoopTo (codeQ Try.prog (X nm_ann) (loopOf Try.f124 0)) (some [0, 2, 13, 14, 15]) (some [0, 2]) (Wi_3 tx) ([] : Heap) (.ret) (mkF 36 [(0, (.str tx)), (2, (.bool false))]) ([] : Heap) from (nm_bad tx (by have q := h1'; have q2 := h2'; omega) tx.size 0 ow (by
        have q := h1'; have q2 := h2'
        have h3 : (strL tx).all charOk = false := by
          cases h4 : (strL tx).all charOk with
          | false => rfl
          | true =>
            have h5 : nameB tx = true := by simp only [nameB, Bool.and_eq_true, decide_eq_true_eq]; exact ⟨by omega, by omega, h4⟩
            rw [h5] at hb; simp at hb
        obtain ⟨j, hj, hj2⟩ := all_no h3
        exact ⟨j, Nat.zero_le _, by rw [strL_len] at hj; exact hj, hj2⟩))) (.f 0 (AV.bool false) (.e (AV.bool false))))))))))))))))
theorem name_spec (tx : ByteArray)  : ACalls Try.prog 124 [(.str tx)] ([] : Heap) ((AV.bool (nameB tx)), ([] : Heap)) := by
  cases hb : nameB tx with
  | true => exact nameT_spec tx hb
  | false => exact nameF_spec tx hb
theorem name_at (tx : ByteArray)  (H : Heap) : ACalls Try.prog 124 [(.str tx)] H ((AV.bool (nameB tx)), H) := (name_spec tx ).lift kr kr H
def rnm_ann : Ann := { big := [12, 17, 23, 28], fin := some 0, live := [(2, [0, 2, 3])], out := [(2, [0, 2])] }
@[simp] abbrev Wi_4 (v1_ : ByteArray) (v2_ : Nat) : Fr := (mkF 40 [(0, (AV.str v1_)), (2, (AV.bool false)), (3, (AV.int .i64 ((v2_ + 1 : Nat) : Int)))])
@[simp] abbrev Wi_5 (v1_ : ByteArray) (v2_ : Nat) : Fr := (mkF 40 [(0, (AV.str v1_)), (2, (AV.bool false)), (3, (AV.int .i64 ((v2_ : Nat) : Int)))])
set_option maxRecDepth 100000 in
theorem rnm_step (tx : ByteArray) (i : Nat) (hs : tx.size < 9223372036854775807) (hi : i ≤ tx.size) {eX : Ex} {FX : Fr} {HX : Heap} (k1 : (decide (((i : Nat) : Int) < ((tx.size : Nat) : Int))) = true → (decide ((nth (strL tx) i) < 97)) = true → (decide ((nth (strL tx) i) < 48)) = true → ((.ret : Ex), (mkF 40 [(0, (.str tx)), (2, (.bool false))]), ([] : Heap)) = (eX, FX, HX)) (k2 : (decide (((i : Nat) : Int) < ((tx.size : Nat) : Int))) = true → (decide ((nth (strL tx) i) < 97)) = true → (decide ((nth (strL tx) i) < 48)) = false → (decide ((nth (strL tx) i) > 57)) = true → ((.ret : Ex), (mkF 40 [(0, (.str tx)), (2, (.bool false))]), ([] : Heap)) = (eX, FX, HX)) (k3 : (decide (((i : Nat) : Int) < ((tx.size : Nat) : Int))) = true → (decide ((nth (strL tx) i) < 97)) = true → (decide ((nth (strL tx) i) < 48)) = false → (decide ((nth (strL tx) i) > 57)) = false → LoopTo (codeQ Try.prog (X rnm_ann) (loopOf Try.f147 0)) (some [0, 2, 3]) (some [0, 2]) (Wi_4 tx i) ([] : Heap) eX FX HX) (k4 : (decide (((i : Nat) : Int) < ((tx.size : Nat) : Int))) = true → (decide ((nth (strL tx) i) < 97)) = false → (decide ((nth (strL tx) i) > 122)) = true → (decide ((nth (strL tx) i) < 48)) = true → ((.ret : Ex), (mkF 40 [(0, (.str tx)), (2, (.bool false))]), ([] : Heap)) = (eX, FX, HX)) (k5 : (decide (((i : Nat) : Int) < ((tx.size : Nat) : Int))) = true → (decide ((nth (strL tx) i) < 97)) = false → (decide ((nth (strL tx) i) > 122)) = true → (decide ((nth (strL tx) i) < 48)) = false → (decide ((nth (strL tx) i) > 57)) = true → ((.ret : Ex), (mkF 40 [(0, (.str tx)), (2, (.bool false))]), ([] : Heap)) = (eX, FX, HX)) (k6 : (decide (((i : Nat) : Int) < ((tx.size : Nat) : Int))) = true → (decide ((nth (strL tx) i) < 97)) = false → (decide ((nth (strL tx) i) > 122)) = true → (decide ((nth (strL tx) i) < 48)) = false → (decide ((nth (strL tx) i) > 57)) = false → LoopTo (codeQ Try.prog (X rnm_ann) (loopOf Try.f147 0)) (some [0, 2, 3]) (some [0, 2]) (Wi_4 tx i) ([] : Heap) eX FX HX) (k7 : (decide (((i : Nat) : Int) < ((tx.size : Nat) : Int))) = true → (decide ((nth (strL tx) i) < 97)) = false → (decide ((nth (strL tx) i) > 122)) = false → LoopTo (codeQ Try.prog (X rnm_ann) (loopOf Try.f147 0)) (some [0, 2, 3]) (some [0, 2]) (Wi_4 tx i) ([] : Heap) eX FX HX) (k8 : (decide (((i : Nat) : Int) < ((tx.size : Nat) : Int))) = false → ((.exit 0 : Ex), (mkF 40 [(0, (.str tx)), (2, (.bool false))]), ([] : Heap)) = (eX, FX, HX)) : LoopTo (codeQ Try.prog (X rnm_ann) (loopOf Try.f147 0)) (some [0, 2, 3]) (some [0, 2]) (Wi_5 tx i) ([] : Heap) eX FX HX :=
  stepO (.r (.g (.two (decide (((i : Nat) : Int) < ((tx.size : Nat) : Int))) (fun h1 h1' => (.r (.t 2 (AV.int .u8 (nth (strL tx) i)) ([] : Heap) (sat_index (xt := 9) (ts := { d := .string, size := 1, bytes := 16, zero := [.str ⟨#[]⟩] }) (i := ((i : Nat) : Int)) (n := i) ttOk kr kr kr rfl kr kr ow ow : Sat Try.prog (X rnm_ann) (mkF 40 [(0, (AV.str tx)), (2, (AV.bool false)), (3, (AV.int .i64 ((i : Nat) : Int))), (4, (AV.int .i64 ((i : Nat) : Int))), (5, (AV.str tx)), (6, (AV.int .i64 ((tx.size : Nat) : Int))), (7, (AV.bool (decide (((i : Nat) : Int) < ((tx.size : Nat) : Int))))), (10, (AV.str tx)), (11, (AV.int .i64 ((i : Nat) : Int)))]) ([] : Heap) 0 (opIn Try.f147 4 2) (AV.int .u8 (nth (strL tx) i)) ([] : Heap)) (.two (decide ((nth (strL tx) i) < 97)) (fun h2 h2' => (.yes (.yes (.yes (.yes (.yes (.yes (.t 13 (AV.int .u8 (nth (strL tx) i)) ([] : Heap) (sat_index (xt := 9) (ts := { d := .string, size := 1, bytes := 16, zero := [.str ⟨#[]⟩] }) (i := ((i : Nat) : Int)) (n := i) ttOk kr kr kr rfl kr kr ow ow : Sat Try.prog (X rnm_ann) (mkF 40 [(0, (AV.str tx)), (2, (AV.bool false)), (3, (AV.int .i64 ((i : Nat) : Int))), (4, (AV.int .i64 ((i : Nat) : Int))), (5, (AV.str tx)), (6, (AV.int .i64 ((tx.size : Nat) : Int))), (7, (AV.bool (decide (((i : Nat) : Int) < ((tx.size : Nat) : Int))))), (10, (AV.str tx)), (11, (AV.int .i64 ((i : Nat) : Int))), (12, (AV.int .u8 (nth (strL tx) i))), (13, (AV.bool (decide ((nth (strL tx) i) < 97)))), (14, (AV.bool true)), (15, AV.skip), (16, AV.skip), (17, AV.skip), (18, AV.skip), (19, (AV.bool true)), (20, (AV.bool true)), (21, (AV.str tx)), (22, (AV.int .i64 ((i : Nat) : Int)))]) ([] : Heap) 0 (opIn Try.f147 4 13) (AV.int .u8 (nth (strL tx) i)) ([] : Heap)) (.yes (.yes (.two (decide ((nth (strL tx) i) < 48)) (fun h3 h3' => (.yes (.yes (.yes (.yes (.g (.yes (.r (.g (.l (k1 h1 h2 h3))))))))))) (fun h3 h3' => (.no (.no (.t 18 (AV.int .u8 (nth (strL tx) i)) ([] : Heap) (sat_index (xt := 9) (ts := { d := .string, size := 1, bytes := 16, zero := [.str ⟨#[]⟩] }) (i := ((i : Nat) : Int)) (n := i) ttOk kr kr kr rfl kr kr ow ow : Sat Try.prog (X rnm_ann) (mkF 40 [(0, (AV.str tx)), (2, (AV.bool false)), (3, (AV.int .i64 ((i : Nat) : Int))), (4, (AV.int .i64 ((i : Nat) : Int))), (5, (AV.str tx)), (6, (AV.int .i64 ((tx.size : Nat) : Int))), (7, (AV.bool (decide (((i : Nat) : Int) < ((tx.size : Nat) : Int))))), (10, (AV.str tx)), (11, (AV.int .i64 ((i : Nat) : Int))), (12, (AV.int .u8 (nth (strL tx) i))), (13, (AV.bool (decide ((nth (strL tx) i) < 97)))), (14, (AV.bool true)), (15, AV.skip), (16, AV.skip), (17, AV.skip), (18, AV.skip), (19, (AV.bool true)), (20, (AV.bool true)), (21, (AV.str tx)), (22, (AV.int .i64 ((i : Nat) : Int))), (23, (AV.int .u8 (nth (strL tx) i))), (24, (AV.bool (decide ((nth (strL tx) i) < 48)))), (25, (AV.bool false)), (26, (AV.str tx)), (27, (AV.int .i64 ((i : Nat) : Int)))]) ([] : Heap) 0 (opIn Try.f147 4 18) (AV.int .u8 (nth (strL tx) i)) ([] : Heap)) (.no (.yes (.g (.two (decide ((nth (strL tx) i) > 57)) (fun h4 h4' => (.r (.g (.l (k2 h1 h2 h3 h4))))) (fun h4 h4' => (.r (.y 1 (.int .i64 (IntKind.i64.wrap (((i : Nat) : Int) + 1))) (AV.int .i64 ((i + 1 : Nat) : Int)) (Yes.add ow ow ow) (.g (.l (k3 h1 h2 h3 h4))))))))))))))))))))))))) (fun h2 h2' => (.no (.no (.t 7 (AV.int .u8 (nth (strL tx) i)) ([] : Heap) (sat_index (xt := 9) (ts := { d := .string, size := 1, bytes := 16, zero := [.str ⟨#[]⟩] }) (i := ((i : Nat) : Int)) (n := i) ttOk kr kr kr rfl kr kr ow ow : Sat Try.prog (X rnm_ann) (mkF 40 [(0, (AV.str tx)), (2, (AV.bool false)), (3, (AV.int .i64 ((i : Nat) : Int))), (4, (AV.int .i64 ((i : Nat) : Int))), (5, (AV.str tx)), (6, (AV.int .i64 ((tx.size : Nat) : Int))), (7, (AV.bool (decide (((i : Nat) : Int) < ((tx.size : Nat) : Int))))), (10, (AV.str tx)), (11, (AV.int .i64 ((i : Nat) : Int))), (12, (AV.int .u8 (nth (strL tx) i))), (13, (AV.bool (decide ((nth (strL tx) i) < 97)))), (14, (AV.bool false)), (15, (AV.str tx)), (16, (AV.int .i64 ((i : Nat) : Int)))]) ([] : Heap) 0 (opIn Try.f147 4 7) (AV.int .u8 (nth (strL tx) i)) ([] : Heap)) (.no (.two (decide ((nth (strL tx) i) > 122)) (fun h3 h3' => (.yes (.yes (.t 13 (AV.int .u8 (nth (strL tx) i)) ([] : Heap) (sat_index (xt := 9) (ts := { d := .string, size := 1, bytes := 16, zero := [.str ⟨#[]⟩] }) (i := ((i : Nat) : Int)) (n := i) ttOk kr kr kr rfl kr kr ow ow : Sat Try.prog (X rnm_ann) (mkF 40 [(0, (AV.str tx)), (2, (AV.bool false)), (3, (AV.int .i64 ((i : Nat) : Int))), (4, (AV.int .i64 ((i : Nat) : Int))), (5, (AV.str tx)), (6, (AV.int .i64 ((tx.size : Nat) : Int))), (7, (AV.bool (decide (((i : Nat) : Int) < ((tx.size : Nat) : Int))))), (10, (AV.str tx)), (11, (AV.int .i64 ((i : Nat) : Int))), (12, (AV.int .u8 (nth (strL tx) i))), (13, (AV.bool (decide ((nth (strL tx) i) < 97)))), (14, (AV.bool false)), (15, (AV.str tx)), (16, (AV.int .i64 ((i : Nat) : Int))), (17, (AV.int .u8 (nth (strL tx) i))), (18, (AV.bool (decide ((nth (strL tx) i) > 122)))), (19, (AV.bool (decide ((nth (strL tx) i) > 122)))), (20, (AV.bool true)), (21, (AV.str tx)), (22, (AV.int .i64 ((i : Nat) : Int)))]) ([] : Heap) 0 (opIn Try.f147 4 13) (AV.int .u8 (nth (strL tx) i)) ([] : Heap)) (.yes (.yes (.two (decide ((nth (strL tx) i) < 48)) (fun h4 h4' => (.yes (.yes (.yes (.yes (.g (.yes (.r (.g (.l (k4 h1 h2 h3 h4))))))))))) (fun h4 h4' => (.no (.no (.t 18 (AV.int .u8 (nth (strL tx) i)) ([] : Heap) (sat_index (xt := 9) (ts := { d := .string, size := 1, bytes := 16, zero := [.str ⟨#[]⟩] }) (i := ((i : Nat) : Int)) (n := i) ttOk kr kr kr rfl kr kr ow ow : Sat Try.prog (X rnm_ann) (mkF 40 [(0, (AV.str tx)), (2, (AV.bool false)), (3, (AV.int .i64 ((i : Nat) : Int))), (4, (AV.int .i64 ((i : Nat) : Int))), (5, (AV.str tx)), (6, (AV.int .i64 ((tx.size : Nat) : Int))), (7, (AV.bool (decide (((i : Nat) : Int) < ((tx.size : Nat) : Int))))), (10, (AV.str tx)), (11, (AV.int .i64 ((i : Nat) : Int))), (12, (AV.int .u8 (nth (strL tx) i))), (13, (AV.bool (decide ((nth (strL tx) i) < 97)))), (14, (AV.bool false)), (15, (AV.str tx)), (16, (AV.int .i64 ((i : Nat) : Int))), (17, (AV.int .u8 (nth (strL tx) i))), (18, (AV.bool (decide ((nth (strL tx) i) > 122)))), (19, (AV.bool (decide ((nth (strL tx) i) > 122)))), (20, (AV.bool true)), (21, (AV.str tx)), (22, (AV.int .i64 ((i : Nat) : Int))), (23, (AV.int .u8 (nth (strL tx) i))), (24, (AV.bool (decide ((nth (strL tx) i) < 48)))), (25, (AV.bool false)), (26, (AV.str tx)), (27, (AV.int .i64 ((i : Nat) : Int)))]) ([] : Heap) 0 (opIn Try.f147 4 18) (AV.int .u8 (nth (strL tx) i)) ([] : Heap)) (.no (.yes (.g (.two (decide ((nth (strL tx) i) > 57)) (fun h5 h5' => (.r (.g (.l (k5 h1 h2 h3 h4 h5))))) (fun h5 h5' => (.r (.y 1 (.int .i64 (IntKind.i64.wrap (((i : Nat) : Int) + 1))) (AV.int .i64 ((i + 1 : Nat) : Int)) (Yes.add ow ow ow) (.g (.l (k6 h1 h2 h3 h4 h5))))))))))))))))))))) (fun h3 h3' => (.no (.no (.no (.no (.no (.g (.no (.r (.y 1 (.int .i64 (IntKind.i64.wrap (((i : Nat) : Int) + 1))) (AV.int .i64 ((i + 1 : Nat) : Int)) (Yes.add ow ow ow) (.g (.l (k7 h1 h2 h3))))))))))))))))))))))) (fun h1 h1' => (.l (k8 h1))))))
theorem rnm_good (tx : ByteArray) (hs : tx.size < 9223372036854775807) (r : Nat) : ∀ (i : Nat), i + r = tx.size → (∀ j, i ≤ j → j < tx.size → charOk (nth (strL tx) j) = true) →
    LoopTo (codeQ Try.prog (X rnm_ann) (loopOf Try.f147 0)) (some [0, 2, 3]) (some [0, 2]) (Wi_5 tx i) ([] : Heap) (.exit 0) (mkF 40 [(0, (.str tx)), (2, (.bool false))]) ([] : Heap) := by
  induction r with
  | zero =>
    intro i hi hall
    refine rnm_step tx i hs ow (fun h1 h2 h3 => absurd h1 (by simp; omega)) (fun h1 h2 h3 h4 => absurd h1 (by simp; omega)) (fun h1 h2 h3 h4 => absurd h1 (by simp; omega)) (fun h1 h2 h3 h4 => absurd h1 (by simp; omega)) (fun h1 h2 h3 h4 h5 => absurd h1 (by simp; omega)) (fun h1 h2 h3 h4 h5 => absurd h1 (by simp; omega)) (fun h1 h2 h3 => absurd h1 (by simp; omega)) (fun h1 => rfl)
  | succ r ih =>
    intro i hi hall
    refine rnm_step tx i hs ow (fun h1 h2 h3 => absurd (hall i (Nat.le_refl _) ow) (by rw [(show charOk (nth (strL tx) i) = false by simp only [decide_eq_true_eq, decide_eq_false_iff_not] at h1 h2 h3; simp [charOk]; omega)]; simp)) (fun h1 h2 h3 h4 => absurd (hall i (Nat.le_refl _) ow) (by rw [(show charOk (nth (strL tx) i) = false by simp only [decide_eq_true_eq, decide_eq_false_iff_not] at h1 h2 h3 h4; simp [charOk]; omega)]; simp)) (fun h1 h2 h3 h4 => ih (i + 1) ow (fun j hj hj2 => hall j ow hj2)) (fun h1 h2 h3 h4 => absurd (hall i (Nat.le_refl _) ow) (by rw [(show charOk (nth (strL tx) i) = false by simp only [decide_eq_true_eq, decide_eq_false_iff_not] at h1 h2 h3 h4; simp [charOk]; omega)]; simp)) (fun h1 h2 h3 h4 h5 => absurd (hall i (Nat.le_refl _) ow) (by rw [(show charOk (nth (strL tx) i) = false by simp only [decide_eq_true_eq, decide_eq_false_iff_not] at h1 h2 h3 h4 h5; simp [charOk]; omega)]; simp)) (fun h1 h2 h3 h4 h5 => ih (i + 1) ow (fun j hj hj2 => hall j ow hj2)) (fun h1 h2 h3 => ih (i + 1) ow (fun j hj hj2 => hall j ow hj2)) (fun h1 => absurd h1 (by simp; omega))
theorem rnm_bad (tx : ByteArray) (hs : tx.size < 9223372036854775807) (r : Nat) : ∀ (i : Nat), i + r = tx.size → (∃ j, i ≤ j ∧ j < tx.size ∧ charOk (nth (strL tx) j) = false) →
    LoopTo (codeQ Try.prog (X rnm_ann) (loopOf Try.f147 0)) (some [0, 2, 3]) (some [0, 2]) (Wi_5 tx i) ([] : Heap) (.ret) (mkF 40 [(0, (.str tx)), (2, (.bool false))]) ([] : Heap) := by
  induction r with
  | zero =>
    intro i hi hex
    obtain ⟨j, hj1, hj2, _⟩ := hex
    omega
  | succ r ih =>
    intro i hi hex
    refine rnm_step tx i hs ow (fun h1 h2 h3 => rfl) (fun h1 h2 h3 h4 => rfl) (fun h1 h2 h3 h4 => (by
      obtain ⟨j, hj1, hj2, hj3⟩ := hex
      have hne : j ≠ i := fun e => by rw [e, (show charOk (nth (strL tx) i) = true by simp only [decide_eq_true_eq, decide_eq_false_iff_not] at h1 h2 h3 h4; simp [charOk]; omega)] at hj3; simp at hj3
      exact ih (i + 1) ow ⟨j, by omega, hj2, hj3⟩)) (fun h1 h2 h3 h4 => rfl) (fun h1 h2 h3 h4 h5 => rfl) (fun h1 h2 h3 h4 h5 => (by
      obtain ⟨j, hj1, hj2, hj3⟩ := hex
      have hne : j ≠ i := fun e => by rw [e, (show charOk (nth (strL tx) i) = true by simp only [decide_eq_true_eq, decide_eq_false_iff_not] at h1 h2 h3 h4 h5; simp [charOk]; omega)] at hj3; simp at hj3
      exact ih (i + 1) ow ⟨j, by omega, hj2, hj3⟩)) (fun h1 h2 h3 => (by
      obtain ⟨j, hj1, hj2, hj3⟩ := hex
      have hne : j ≠ i := fun e => by rw [e, (show charOk (nth (strL tx) i) = true by simp only [decide_eq_true_eq, decide_eq_false_iff_not] at h1 h2 h3; simp [charOk]; omega)] at hj3; simp at hj3
      exact ih (i + 1) ow ⟨j, by omega, hj2, hj3⟩)) (fun h1 => absurd h1 (by simp; omega))
@[simp] abbrev Wi_6 (v1_ : ByteArray) : Fr := (mkF 40 [(0, (AV.str v1_)), (2, (AV.bool false)), (3, (AV.int .i64 0))])
set_option maxRecDepth 100000 in
theorem rnameT_spec (tx : ByteArray) (hs : tx.size < 9223372036854775807) (hb : (strL tx).all charOk = true) : ACalls Try.prog 147 [(.str tx)] ([] : Heap) ((AV.bool (nameB tx)), ([] : Heap)) :=
  specO (fn := Try.f147) (ann := rnm_ann) (Has.o Try.func147) (.r (.g (.r (.g (.loop (mkF 40 [(0, (.str tx)), (2, (.bool false))]) (show LoopTo (codeQ Try.prog (X rnm_ann) (loopOf Try.f147 0)) (some [0, 2, 3]) (some [0, 2]) (Wi_6 tx) ([] : Heap) (.exit 0) (mkF 40 [(0, (.str tx)), (2, (.bool false))]) ([] : Heap) from (rnm_good tx hs tx.size 0 ow (fun j hj hj2 => all_nth hb (by rw [strL_len]; exact hj2)))) (.r (.two (decide (((tx.size : Nat) : Int) ≥ 1)) (fun h1 h1' => (.yes (.yes (.g (.f 0 (AV.bool (decide (((tx.size : Nat) : Int) ≤ 16))) (.e (AV.bool (decide (((tx.size : Nat) : Int) ≤ 16))) (by
        have e : nameB tx = (decide (0 < tx.size) && (decide (tx.size ≤ 16) && true)) := by unfold nameB; rw [hb]
        rw [e]
        congr 2
        rw [Bool.eq_iff_iff]
        simp only [Bool.and_eq_true, decide_eq_true_eq, Bool.false_eq_true, and_true, false_iff]
        omega))))))) (fun h1 h1' => (.no (.no (.g (.f 0 (AV.bool false) (.e (AV.bool false) (by
        have e : nameB tx = (decide (0 < tx.size) && (decide (tx.size ≤ 16) && true)) := by unfold nameB; rw [hb]
        rw [e]
        congr 2
        rw [Bool.eq_iff_iff]
        simp only [Bool.and_eq_true, decide_eq_true_eq, Bool.false_eq_true, and_true, false_iff]
        omega))))))))))))))
set_option maxRecDepth 100000 in
theorem rnameF_spec (tx : ByteArray) (hs : tx.size < 9223372036854775807) (hb : (strL tx).all charOk = false) : ACalls Try.prog 147 [(.str tx)] ([] : Heap) ((AV.bool (nameB tx)), ([] : Heap)) :=
  specO (fn := Try.f147) (ann := rnm_ann) (Has.o Try.func147) (.r (.g (.r (.g (.loop (mkF 40 [(0, (.str tx)), (2, (.bool false))]) (show LoopTo (codeQ Try.prog (X rnm_ann) (loopOf Try.f147 0)) (some [0, 2, 3]) (some [0, 2]) (Wi_6 tx) ([] : Heap) (.ret) (mkF 40 [(0, (.str tx)), (2, (.bool false))]) ([] : Heap) from (rnm_bad tx hs tx.size 0 ow (by
        obtain ⟨j, hj, hj2⟩ := all_no hb
        exact ⟨j, Nat.zero_le _, by rw [strL_len] at hj; exact hj, hj2⟩))) (.f 0 (AV.bool false) (.e (AV.bool false) (by
        unfold nameB; rw [hb]; simp))))))))
theorem rname_spec (tx : ByteArray) (hs : tx.size < 9223372036854775807) : ACalls Try.prog 147 [(.str tx)] ([] : Heap) ((AV.bool (nameB tx)), ([] : Heap)) := by
  cases hb : (strL tx).all charOk with
  | true => exact rnameT_spec tx hs hb
  | false => exact rnameF_spec tx hs hb
theorem rname_at (tx : ByteArray) (hs : tx.size < 9223372036854775807) (H : Heap) : ACalls Try.prog 147 [(.str tx)] H ((AV.bool (nameB tx)), H) := (rname_spec tx hs).lift kr kr H
def cardR (c : Card) : Bool := nameB c.key.app && (nameB c.key.id && ((decide (c.status = 1) || decide (c.status = 2)) && ((decide (0 ≤ c.over) && decide (c.over ≤ 3)) && ((decide (1 ≤ c.lease) && decide (c.lease ≤ 1048576)) && stR c.stamp))))
attribute [local irreducible] nameB stR
def cright_ann : Ann := { refs := [1], fin := some 0 }
set_option maxRecDepth 100000 in
theorem cright_spec (c : Card)  : ACalls Try.prog 72 [(.agg (Card.row c))] ([] : Heap) ((AV.bool (cardR c)), ([] : Heap)) :=
  specO (fn := Try.f72) (ann := cright_ann) (Has.o Try.func72) (.r (.g (.r (.c 3 (name_at c.key.app  ([] : Heap)) (.two (!(nameB c.key.app)) (fun h1 h1' => (.yes (.yes (.yes (.yes (.g (.yes (.r (.g (.f 0 (AV.bool false) (.e (AV.bool false) (by
        simp only [cardR]
        simp_all <;> omega)))))))))))) (fun h1 h1' => (.no (.no (.no (.c 9 (name_at c.key.id  ([] : Heap)) (.no (.g (.two (!(nameB c.key.id)) (fun h2 h2' => (.r (.g (.f 0 (AV.bool false) (.e (AV.bool false) (by
        simp only [cardR]
        simp_all <;> omega)))))) (fun h2 h2' => (.r (.two (c.status != 1) (fun h3 h3' => (.yes (.yes (.g (.two (c.status != 2) (fun h4 h4' => (.r (.g (.f 0 (AV.bool false) (.e (AV.bool false) (by
        simp only [cardR]
        simp_all <;> omega)))))) (fun h4 h4' => (.r (.two (decide (c.over < 0)) (fun h5 h5' => (.yes (.yes (.g (.yes (.r (.g (.f 0 (AV.bool false) (.e (AV.bool false) (by
        simp only [cardR]
        simp_all <;> omega)))))))))) (fun h5 h5' => (.no (.no (.g (.two (decide (c.over > 3)) (fun h6 h6' => (.r (.g (.f 0 (AV.bool false) (.e (AV.bool false) (by
        simp only [cardR]
        simp_all <;> omega)))))) (fun h6 h6' => (.r (.two (decide (c.lease ≥ 1)) (fun h7 h7' => (.yes (.yes (.two (decide (c.lease ≤ 1048576)) (fun h8 h8' => (.yes (.yes (.c 11 (stRight_at c.stamp  ([] : Heap)) (.g (.f 0 (AV.bool (stR c.stamp)) (.e (AV.bool (stR c.stamp)) (by
        simp only [cardR]
        simp_all <;> omega)))))))) (fun h8 h8' => (.no (.no (.g (.f 0 (AV.bool false) (.e (AV.bool false) (by
        simp only [cardR]
        simp_all <;> omega))))))))))) (fun h7 h7' => (.no (.no (.no (.no (.no (.g (.f 0 (AV.bool false) (.e (AV.bool false) (by
        simp only [cardR]
        simp_all <;> omega)))))))))))))))))))))))))) (fun h3 h3' => (.no (.no (.g (.no (.r (.two (decide (c.over < 0)) (fun h4 h4' => (.yes (.yes (.g (.yes (.r (.g (.f 0 (AV.bool false) (.e (AV.bool false) (by
        simp only [cardR]
        simp_all <;> omega)))))))))) (fun h4 h4' => (.no (.no (.g (.two (decide (c.over > 3)) (fun h5 h5' => (.r (.g (.f 0 (AV.bool false) (.e (AV.bool false) (by
        simp only [cardR]
        simp_all <;> omega)))))) (fun h5 h5' => (.r (.two (decide (c.lease ≥ 1)) (fun h6 h6' => (.yes (.yes (.two (decide (c.lease ≤ 1048576)) (fun h7 h7' => (.yes (.yes (.c 11 (stRight_at c.stamp  ([] : Heap)) (.g (.f 0 (AV.bool (stR c.stamp)) (.e (AV.bool (stR c.stamp)) (by
        simp only [cardR]
        simp_all <;> omega)))))))) (fun h7 h7' => (.no (.no (.g (.f 0 (AV.bool false) (.e (AV.bool false) (by
        simp only [cardR]
        simp_all <;> omega))))))))))) (fun h6 h6' => (.no (.no (.no (.no (.no (.g (.f 0 (AV.bool false) (.e (AV.bool false) (by
        simp only [cardR]
        simp_all <;> omega)))))))))))))))))))))))))))))))))))))))))
theorem cright_at (c : Card)  (H : Heap) : ACalls Try.prog 72 [(.agg (Card.row c))] H ((AV.bool (cardR c)), H) := (cright_spec c ).lift kr kr H
def rright_ann : Ann := { refs := [1], fin := some 0 }
set_option maxRecDepth 100000 in
theorem rright_spec (c : Card) (h1 : c.key.app.size < 9223372036854775807) (h2 : c.key.id.size < 9223372036854775807) : ACalls Try.prog 118 [(.agg (Card.row c))] ([] : Heap) ((AV.bool (cardR c)), ([] : Heap)) :=
  specO (fn := Try.f118) (ann := rright_ann) (Has.o Try.func118) (.r (.g (.r (.c 3 (rname_at c.key.app oa ([] : Heap)) (.two (nameB c.key.app) (fun h1 h1' => (.yes (.yes (.yes (.c 8 (rname_at c.key.id oa ([] : Heap)) (.two (nameB c.key.id) (fun h2 h2' => (.yes (.yes (.yes (.two (c.status == 1) (fun h3 h3' => (.yes (.yes (.yes (.yes (.yes (.yes (.two (decide (c.over ≥ 0)) (fun h4 h4' => (.yes (.yes (.two (decide (c.over ≤ 3)) (fun h5 h5' => (.yes (.yes (.two (decide (c.lease ≥ 1)) (fun h6 h6' => (.yes (.yes (.two (decide (c.lease ≤ 1048576)) (fun h7 h7' => (.yes (.yes (.c 43 (rstRight_at c.stamp  ([] : Heap)) (.g (.f 0 (AV.bool (stR c.stamp)) (.e (AV.bool (stR c.stamp)) (by
        simp only [cardR]
        simp_all <;> omega)))))))) (fun h7 h7' => (.no (.no (.g (.f 0 (AV.bool false) (.e (AV.bool false) (by
        simp only [cardR]
        simp_all <;> omega))))))))))) (fun h6 h6' => (.no (.no (.no (.no (.no (.g (.f 0 (AV.bool false) (.e (AV.bool false) (by
        simp only [cardR]
        simp_all <;> omega)))))))))))))) (fun h5 h5' => (.no (.no (.no (.no (.no (.no (.no (.no (.g (.f 0 (AV.bool false) (.e (AV.bool false) (by
        simp only [cardR]
        simp_all <;> omega))))))))))))))))) (fun h4 h4' => (.no (.no (.no (.no (.no (.no (.no (.no (.no (.no (.no (.g (.f 0 (AV.bool false) (.e (AV.bool false) (by
        simp only [cardR]
        simp_all <;> omega)))))))))))))))))))))))) (fun h3 h3' => (.no (.no (.yes (.two (c.status == 2) (fun h4 h4' => (.yes (.yes (.two (decide (c.over ≥ 0)) (fun h5 h5' => (.yes (.yes (.two (decide (c.over ≤ 3)) (fun h6 h6' => (.yes (.yes (.two (decide (c.lease ≥ 1)) (fun h7 h7' => (.yes (.yes (.two (decide (c.lease ≤ 1048576)) (fun h8 h8' => (.yes (.yes (.c 43 (rstRight_at c.stamp  ([] : Heap)) (.g (.f 0 (AV.bool (stR c.stamp)) (.e (AV.bool (stR c.stamp)) (by
        simp only [cardR]
        simp_all <;> omega)))))))) (fun h8 h8' => (.no (.no (.g (.f 0 (AV.bool false) (.e (AV.bool false) (by
        simp only [cardR]
        simp_all <;> omega))))))))))) (fun h7 h7' => (.no (.no (.no (.no (.no (.g (.f 0 (AV.bool false) (.e (AV.bool false) (by
        simp only [cardR]
        simp_all <;> omega)))))))))))))) (fun h6 h6' => (.no (.no (.no (.no (.no (.no (.no (.no (.g (.f 0 (AV.bool false) (.e (AV.bool false) (by
        simp only [cardR]
        simp_all <;> omega))))))))))))))))) (fun h5 h5' => (.no (.no (.no (.no (.no (.no (.no (.no (.no (.no (.no (.g (.f 0 (AV.bool false) (.e (AV.bool false) (by
        simp only [cardR]
        simp_all <;> omega)))))))))))))))))))) (fun h4 h4' => (.no (.no (.no (.no (.no (.no (.no (.no (.no (.no (.no (.no (.no (.no (.g (.f 0 (AV.bool false) (.e (AV.bool false) (by
        simp only [cardR]
        simp_all <;> omega))))))))))))))))))))))))))))) (fun h2 h2' => (.no (.no (.no (.no (.no (.no (.no (.no (.no (.no (.no (.no (.no (.no (.no (.no (.no (.no (.no (.g (.f 0 (AV.bool false) (.e (AV.bool false) (by
        simp only [cardR]
        simp_all <;> omega)))))))))))))))))))))))))))))) (fun h1 h1' => (.no (.no (.no (.no (.no (.no (.no (.no (.no (.no (.no (.no (.no (.no (.no (.no (.no (.no (.no (.no (.no (.no (.no (.g (.f 0 (AV.bool false) (.e (AV.bool false) (by
        simp only [cardR]
        simp_all <;> omega)))))))))))))))))))))))))))))))))
theorem rright_at (c : Card) (h1 : c.key.app.size < 9223372036854775807) (h2 : c.key.id.size < 9223372036854775807) (H : Heap) : ACalls Try.prog 118 [(.agg (Card.row c))] H ((AV.bool (cardR c)), H) := (rright_spec c h1 h2).lift kr kr H
attribute [local irreducible] cardR cmpSt
def joinC (a b : Card) : Card := if (decide (cmpSt a.stamp b.stamp < 0)) = true then b else a
def cjoin_ann : Ann := { refs := [2, 3], fin := some 0 }
@[simp] abbrev Wi_7  : Heap := [⟨0, 9, [[(AV.str ⟨#[]⟩), (AV.str ⟨#[]⟩), (AV.int .i64 0), (AV.int .i64 0), (AV.int .i64 0), (AV.int .i64 0), (AV.int .i64 0), (AV.int .i64 0), (AV.bool false)]], none⟩]
set_option maxRecDepth 100000 in
theorem cjoin_spec (a b : Card)  : ACalls Try.prog 69 [(.agg (Card.row a)), (.agg (Card.row b))] ([] : Heap) ((AV.agg (Card.row (joinC a b))), ([] : Heap)) :=
  specO (fn := Try.f69) (ann := cjoin_ann) (Has.o Try.func69) (.r (.g (.r (.c 4 (stLess_at a.stamp b.stamp  Wi_7) (.g (.two (decide (cmpSt a.stamp b.stamp < 0)) (fun h1 h1' => (.r (.g (.f 0 (AV.agg (Card.row b)) (.e (AV.agg (Card.row b)) (by
        simp only [joinC, h1, if_true, Bool.false_eq_true, if_false])))))) (fun h1 h1' => (.r (.g (.f 0 (AV.agg (Card.row a)) (.e (AV.agg (Card.row a)) (by
        simp only [joinC, h1, if_true, Bool.false_eq_true, if_false]))))))))))))
theorem cjoin_at (a b : Card)  (H : Heap) : ACalls Try.prog 69 [(.agg (Card.row a)), (.agg (Card.row b))] H ((AV.agg (Card.row (joinC a b))), H) := (cjoin_spec a b ).lift kr kr H
def rcjoin_ann : Ann := { refs := [2, 3], fin := some 0 }
set_option maxRecDepth 100000 in
theorem rcjoin_spec (a b : Card)  : ACalls Try.prog 122 [(.agg (Card.row a)), (.agg (Card.row b))] ([] : Heap) ((AV.agg (Card.row (joinC a b))), ([] : Heap)) :=
  specO (fn := Try.f122) (ann := rcjoin_ann) (Has.o Try.func122) (.r (.g (.r (.c 4 (rstLess_at a.stamp b.stamp  Wi_7) (.g (.two (decide (cmpSt a.stamp b.stamp < 0)) (fun h1 h1' => (.r (.g (.f 0 (AV.agg (Card.row b)) (.e (AV.agg (Card.row b)) (by
        simp only [joinC, h1, if_true, Bool.false_eq_true, if_false])))))) (fun h1 h1' => (.r (.g (.f 0 (AV.agg (Card.row a)) (.e (AV.agg (Card.row a)) (by
        simp only [joinC, h1, if_true, Bool.false_eq_true, if_false]))))))))))))
theorem rcjoin_at (a b : Card)  (H : Heap) : ACalls Try.prog 122 [(.agg (Card.row a)), (.agg (Card.row b))] H ((AV.agg (Card.row (joinC a b))), H) := (rcjoin_spec a b ).lift kr kr H
end Go.Proofs.Ytcmfnfkahdconaa.AM

set_option linter.unusedVariables false
set_option linter.unusedSimpArgs false
set_option maxRecDepth 100000
namespace Go.Proofs.Ytcmfnfkahdconaa.AM
open Go
attribute [local irreducible] Tp.card Tp.cardT Tp.next Tp.step Tp.cards Tp.cardsT Tp.key Tp.keyT
theorem bl_irrefl : ∀ (x : List UInt8), Op.bytesLess x x = false
  | [] => rfl
  | a :: x => by
    have := bl_irrefl x
    simp [Op.bytesLess, this]
theorem bl_asymm : ∀ (x y : List UInt8), Op.bytesLess x y = true → Op.bytesLess y x = false
  | [], [], h => by simp [Op.bytesLess] at h
  | [], b :: y, h => rfl
  | a :: x, [], h => by simp [Op.bytesLess] at h
  | a :: x, b :: y, h => by
    simp only [Op.bytesLess, Bool.or_eq_true, Bool.and_eq_true, decide_eq_true_eq, beq_iff_eq] at h
    rcases h with h | ⟨rfl, h⟩
    · have h1 : ¬ b < a := fun h' => by exact absurd (UInt8.lt_trans h h') (UInt8.lt_irrefl _)
      have h2 : ¬ b = a := fun e => by subst e; exact UInt8.lt_irrefl _ h
      simp [Op.bytesLess, h1, h2]
    · have := bl_asymm x y h
      simp [Op.bytesLess, this]
theorem bl_trans : ∀ (x y z : List UInt8), Op.bytesLess x y = true → Op.bytesLess y z = true → Op.bytesLess x z = true
  | [], [], z, h, _ => by simp [Op.bytesLess] at h
  | [], b :: y, [], _, h => by simp [Op.bytesLess] at h
  | [], b :: y, c :: z, _, _ => rfl
  | a :: x, [], z, h, _ => by simp [Op.bytesLess] at h
  | a :: x, b :: y, [], _, h => by simp [Op.bytesLess] at h
  | a :: x, b :: y, c :: z, h, k => by
    simp only [Op.bytesLess, Bool.or_eq_true, Bool.and_eq_true, decide_eq_true_eq, beq_iff_eq] at h k ⊢
    rcases h with h | ⟨rfl, h⟩
    · rcases k with k | ⟨rfl, k⟩
      · exact .inl (UInt8.lt_trans h k)
      · exact .inl h
    · rcases k with k | ⟨rfl, k⟩
      · exact .inl k
      · exact .inr ⟨rfl, bl_trans x y z h k⟩
theorem bl_tri : ∀ (x y : List UInt8), Op.bytesLess x y = false → Op.bytesLess y x = false → x = y
  | [], [], _, _ => rfl
  | [], b :: y, h, _ => by simp [Op.bytesLess] at h
  | a :: x, [], _, h => by simp [Op.bytesLess] at h
  | a :: x, b :: y, h, k => by
    simp only [Op.bytesLess, Bool.or_eq_false_iff, decide_eq_false_iff_not] at h k
    have e : a = b := by
      rcases UInt8.lt_or_lt_of_ne (a := a) (b := b) |> fun f => Classical.em (a = b) with e | e
      · exact e
      · rcases UInt8.lt_or_lt_of_ne e with h1 | h1
        · exact absurd h1 h.1
        · exact absurd h1 k.1
    subst e
    simp only [beq_self_eq_true, Bool.true_and] at h k
    rw [bl_tri x y h.2 k.2]
theorem ba_eq {a b : ByteArray} (h : a.toList = b.toList) : a = b := by
  rw [ByteArray.toList_eq, ByteArray.toList_eq] at h
  obtain ⟨⟨a⟩⟩ := a
  obtain ⟨⟨b⟩⟩ := b
  simp at h
  rw [h]
theorem bk_asymm {a b : Key} (h : beforeK a b = true) : beforeK b a = false := by
  unfold beforeK at *
  by_cases e : a.app.toList = b.app.toList
  · have e' : b.app.toList = a.app.toList := e.symm
    simp [e] at h
    simp [e']
    exact bl_asymm _ _ h
  · have e' : ¬ b.app.toList = a.app.toList := fun x => e x.symm
    simp [e] at h
    simp [e']
    exact bl_asymm _ _ h
theorem bk_trans {a b c : Key} (h : beforeK a b = true) (k : beforeK b c = true) : beforeK a c = true := by
  unfold beforeK at *
  by_cases e : a.app.toList = b.app.toList
  · by_cases f : b.app.toList = c.app.toList
    · simp [e] at h; simp [f] at k; simp [e, f]
      exact bl_trans _ _ _ h k
    · simp [f] at k
      have : ¬ a.app.toList = c.app.toList := by rw [e]; exact f
      simp [this]; rw [e]; exact k
  · simp [e] at h
    by_cases f : b.app.toList = c.app.toList
    · have : ¬ a.app.toList = c.app.toList := by rw [← f]; exact e
      simp [this]; rw [← f]; exact h
    · simp [f] at k
      have h1 := bl_trans _ _ _ h k
      have : ¬ a.app.toList = c.app.toList := fun x => by rw [x] at h; have := bl_asymm _ _ h; rw [k] at this; simp at this
      simp [this]; exact h1
theorem bk_tri {a b : Key} (h : beforeK a b = false) (k : beforeK b a = false) : a = b := by
  unfold beforeK at *
  by_cases e : a.app.toList = b.app.toList
  · have e' : b.app.toList = a.app.toList := e.symm
    simp [e] at h; simp [e'] at k
    have h2 := bl_tri _ _ h k
    cases a; cases b
    exact congr (congrArg Key.mk (ba_eq e)) (ba_eq h2)
  · have e' : ¬ b.app.toList = a.app.toList := fun x => e x.symm
    simp [e] at h; simp [e'] at k
    exact absurd (bl_tri _ _ h k) e
theorem bk_lt_le {a b c : Key} (h : beforeK a b = true) (k : beforeK c b = false) : beforeK a c = true := by
  cases e : beforeK b c with
  | true => exact bk_trans h e
  | false => rw [← bk_tri e k]; exact h
theorem bk_le_trans {a b c : Key} (h : beforeK b a = false) (k : beforeK c b = false) : beforeK c a = false := by
  cases e : beforeK c a with
  | false => rfl
  | true => have := bk_lt_le e h; rw [this] at k; simp at k
theorem less_before (a b : Key) : lessK a b = beforeK a b := by
  unfold lessK cmpK cmpS beforeK
  by_cases h1 : Op.bytesLess a.app.toList b.app.toList = true
  · have : ¬ a.app.toList = b.app.toList := fun e => by rw [e, bl_irrefl] at h1; simp at h1
    simp [h1, this]
  · by_cases h2 : a.app.toList = b.app.toList
    · simp [h2, bl_irrefl]
      by_cases h3 : Op.bytesLess a.id.toList b.id.toList = true
      · simp [h3]
      · by_cases h4 : a.id.toList = b.id.toList
        · simp [h4, bl_irrefl]
        · simp [h3, h4]
    · simp [h1, h2]
theorem nth_mem {α : Type} [Inhabited α] {l : List α} {i : Nat} (h : i < l.length) : nth l i ∈ l := List.mem_of_getElem? (nth_get h)
theorem nth_getElem {α : Type} [Inhabited α] {l : List α} {i : Nat} (h : i < l.length) : nth l i = l[i] := by
  simp [nth, List.getD_eq_getElem?_getD, List.getElem?_eq_getElem h]
theorem pw_nth {α : Type} [Inhabited α] {R : α → α → Prop} {l : List α} : List.Pairwise R l ↔ ∀ i j, i < j → j < l.length → R (nth l i) (nth l j) := by
  rw [List.pairwise_iff_getElem]
  constructor
  · intro h i j hij hj
    rw [nth_getElem (show i < l.length by omega), nth_getElem hj]
    exact h i j _ _ hij
  · intro h i j hi hj hij
    have := h i j hij hj
    rwa [nth_getElem hi, nth_getElem hj] at this
theorem mem_nth {α : Type} [Inhabited α] {l : List α} {x : α} (h : x ∈ l) : ∃ i, i < l.length ∧ nth l i = x := by
  obtain ⟨i, hi, rfl⟩ := List.getElem_of_mem h
  exact ⟨i, hi, nth_getElem hi⟩
theorem nth_take {α : Type} [Inhabited α] {l : List α} {i k : Nat} (h : i < k) : nth (l.take k) i = nth l i := by
  simp [nth, List.getD_eq_getElem?_getD, List.getElem?_take, h]
theorem nth_drop {α : Type} [Inhabited α] {l : List α} {i k : Nat} : nth (l.drop k) i = nth l (k + i) := by
  simp [nth, List.getD_eq_getElem?_getD, List.getElem?_drop]
theorem Tp.cards_mem (n : Nat) : ∀ (t : Tp) (c : Card), c ∈ t.cards n → ∃ t' : Tp, c = t'.card := by
  induction n with
  | zero => intro t c h; simp [Tp.cards] at h
  | succ n ih =>
    intro t c h
    simp only [Tp.cards, List.mem_cons] at h
    rcases h with h | h
    · exact ⟨t, h⟩
    · exact ih _ c h
end Go.Proofs.Ytcmfnfkahdconaa.AM

set_option linter.unusedVariables false
set_option linter.unusedSimpArgs false
set_option maxRecDepth 100000
namespace Go.Proofs.Ytcmfnfkahdconaa.AM
open Go
end Go.Proofs.Ytcmfnfkahdconaa.AM

set_option maxRecDepth 100000
set_option linter.unusedVariables false
set_option linter.unusedSimpArgs false
namespace Go.Proofs.Ytcmfnfkahdconaa.AM
open Go Go.Proofs.Ytcmfnfkahdconaa
attribute [local irreducible] ACalls funT codeT codeQ LoopTo
attribute [local irreducible] Tp.card Tp.cardT Tp.next Tp.step Tp.cards Tp.cardsT Tp.key Tp.keyT sink insSort sortK insK posK beforeK sortP cmpK
end Go.Proofs.Ytcmfnfkahdconaa.AM

set_option linter.unusedVariables false
set_option linter.unusedSimpArgs false
set_option maxRecDepth 100000
namespace Go.Proofs.Ytcmfnfkahdconaa.AM
open Go
def recL (a : List Key) : List Key := a.drop (a.length - 16)
theorem recL_len (a : List Key) : (recL a).length = min a.length 16 := by unfold recL; rw [List.length_drop]; omega
theorem recL_add (a : List Key) (k : Key) : (recL a ++ [k]).drop ((recL a).length + 1 - 16) = recL (a ++ [k]) := by
  rw [recL_len]
  unfold recL
  rw [List.length_append, List.length_singleton]
  rcases Nat.lt_or_ge a.length 16 with h | h
  · have e1 : a.length - 16 = 0 := by omega
    have e2 : min a.length 16 + 1 - 16 = 0 := by omega
    have e3 : a.length + 1 - 16 = 0 := by omega
    rw [e1, e2, e3]; simp
  · have e2 : min a.length 16 + 1 - 16 = 1 := by omega
    have e3 : a.length + 1 - 16 = (a.length - 16) + 1 := by omega
    rw [e2, e3, List.drop_append_of_le_length (by rw [List.length_drop]; omega), List.drop_append_of_le_length (by omega), List.drop_drop]
end Go.Proofs.Ytcmfnfkahdconaa.AM

set_option maxRecDepth 100000
set_option linter.unusedVariables false
set_option linter.unusedSimpArgs false
namespace Go.Proofs.Ytcmfnfkahdconaa.AM
open Go Go.Proofs.Ytcmfnfkahdconaa
attribute [local irreducible] ACalls funT codeT codeQ LoopTo
attribute [local irreducible] Tp.card Tp.cardT Tp.next Tp.step Tp.cards Tp.cardsT Tp.key Tp.keyT sink insSort sortK insK posK beforeK
theorem hcInsE (vs : Array Value) (w : World) : (callFunc 135 vs).run Try.prog w = ((Extern.SlicesOverlaps.overlaps #[108, 108] #[4] vs).run Try.prog w).andThen fun v w' => .ok (.value v) w' :=
  run_callFunc_extern (fn := Try.f135) kr kr kr kr kr vs w
def InsEE_ann : Ann := { base := 1, fin := some 1 }
set_option maxRecDepth 100000 in
theorem InsEE_spec (l : List Entry) (x : Entry) (g : Nat) (hl : l.length < 1048576) : ACalls Try.prog 88 [(.osl 0 g 10 0 l.length), (.int .i64 ((l.length : Nat) : Int)), (.sl .clip 10 [(Entry.row x)])] ([⟨g, 10, (List.map Entry.row l), none⟩] : Heap) ((AV.osl 0 (g + 1) 10 0 (l.length + 1)), ([⟨(g + 1), 10, (List.map Entry.row (l ++ [x])), none⟩] : Heap)) :=
  specO (fn := Try.f88) (ann := InsEE_ann) (Has.o Try.func88) (.r (.g (.r (.so 2 0 g 10 0 l.length ((l.length : Nat) : Int) ((l.length : Nat) : Int) (AV.osl 0 g 10 l.length (l.length - l.length)) (slice_osl (l := l.length) (h := l.length) om om om om om om) (.g (.r (.g (.r (.g (.no (.r (.g (.r (.y 2 (AV.bool (((l.length : Nat) : Int) == ((l.length : Nat) : Int))) (AV.bool true) (Yes.bool om) (.g (.yes (.r (.ap 2 108 (AV.osl 0 g 10 0 l.length) (AV.sl .clip 10 [(Entry.row x)]) (AV.osl 0 (g + 1) 10 0 (l.length + 1)) ([⟨(g + 1), 10, (List.map Entry.row (l ++ [x])), none⟩] : Heap) (evAppend_one (row := Entry.row) (l := l) (x := x) (T := tt) (e := 70) (te := { d := .struct [(58, 0), (2, 9)], size := 10, bytes := 96, zero := [.str ⟨#[]⟩, .str ⟨#[]⟩, .int .i64 0, .int .i64 0, .int .i64 0, .int .i64 0, .int .i64 0, .int .i64 0, .bool false, .int .i64 0] }) (z := 1) (b := 24) (y := [.sl .nil 0 []]) kr kr rfl (by decide) (by decide) kr (by first | assumption | omega | (simp; done) | (simp; omega)) rfl rfl (by first | omega | (show _ * 96 ≤ _; omega) | (simp; omega))) (.g (.f 1 (AV.osl 0 (g + 1) 10 0 (l.length + 1)) (.e (AV.osl 0 (g + 1) 10 0 (l.length + 1)))))))))))))))))))))))
def InsEG_ann : Ann := { big := [40, 60], base := 1 }
@[simp] abbrev Va_1 (v1_ : Nat) (v2_ : List Entry) (v3_ : Nat) (v4_ : Nat) (v5_ : Entry) : Heap := [⟨v1_, 10, (List.map Entry.row v2_), some v3_⟩, ⟨0, 10, (List.map Entry.row (v2_.take v4_ ++ v5_ :: v2_.drop v4_)), none⟩]
@[simp] abbrev Va_2 (v1_ : Nat) (v2_ : List Entry) (v3_ : Nat) (v4_ : Entry) : Fr := (mkF 95 [(0, (AV.osl 0 v1_ 10 0 v2_.length)), (1, (AV.int .i64 ((v3_ : Nat) : Int))), (2, (AV.sl .clip 10 [(Entry.row v4_)])), (6, (AV.sl .nil 0 [])), (7, (AV.int .i64 1)), (8, (AV.int .i64 ((v2_.length : Nat) : Int))), (10, (AV.osl 0 v1_ 10 0 v2_.length)), (11, (AV.int .i64 ((v3_ : Nat) : Int))), (12, (AV.osl 0 v1_ 10 v3_ (v2_.length - v3_))), (13, (AV.sl .clip 10 [(Entry.row v4_)])), (14, (AV.int .i64 1)), (15, (AV.int .i64 1)), (16, (AV.bool false)), (18, (AV.osl 0 v1_ 10 0 v2_.length)), (19, (AV.int .i64 ((v2_.length : Nat) : Int))), (20, (AV.int .i64 ((v3_ : Nat) : Int))), (21, (AV.int .i64 ((v2_.length : Nat) : Int))), (22, (AV.bool false)), (26, (AV.int .i64 ((v2_.length : Nat) : Int))), (27, (AV.int .i64 1)), (28, (AV.int .i64 ((v2_.length + 1 : Nat) : Int))), (29, (AV.osl 0 v1_ 10 0 v2_.length))])
@[simp] abbrev Va_3 (v1_ : Nat) (v2_ : List Entry) (v3_ : Nat) (v4_ : Nat) : Heap := [⟨v1_, 10, (List.map Entry.row v2_), some v3_⟩, ⟨0, 10, (List.map Entry.row (v2_.take v4_) ++ List.replicate (v2_.length + 1 - v4_) (List.replicate 10 AV.unk)), none⟩]
@[simp] abbrev Va_4 (v1_ : Nat) (v2_ : List Entry) (v3_ : Nat) (v4_ : Nat) (v5_ : Entry) : Heap := [⟨v1_, 10, (List.map Entry.row v2_), some v3_⟩, ⟨0, 10, (List.map Entry.row (v2_.take v4_ ++ [v5_]) ++ List.replicate (v2_.length + 1 - v4_ - 1) (List.replicate 10 AV.unk)), none⟩]
set_option maxRecDepth 100000 in
theorem InsEG_spec (l : List Entry) (x : Entry) (g i r : Nat) (hi : i < l.length) (hl : l.length < 1048576) (hr : r < l.length + 1) : ACalls Try.prog 88 [(.osl 0 g 10 0 l.length), (.int .i64 ((i : Nat) : Int)), (.sl .clip 10 [(Entry.row x)])] ([⟨g, 10, (List.map Entry.row l), some r⟩] : Heap) ((AV.osl 1 0 10 0 (l.length + 1)), (Va_1 g l r i x)) :=
  specO (fn := Try.f88) (ann := InsEG_ann) (Has.o Try.func88) (.r (.g (.r (.so 2 0 g 10 0 l.length ((i : Nat) : Int) ((l.length : Nat) : Int) (AV.osl 0 g 10 i (l.length - i)) (slice_osl (l := i) (h := l.length) om om om om om om) (.g (.r (.g (.r (.g (.no (.r (.g (.r (.y 2 (AV.bool (((i : Nat) : Int) == ((l.length : Nat) : Int))) (AV.bool false) (Yes.bool om) (.g (.no (.r (.y 2 (.int .i64 (IntKind.i64.wrap (((l.length : Nat) : Int) + 1))) (AV.int .i64 ((l.length + 1 : Nat) : Int)) (Yes.add ow ow ow) (.t 4 (AV.int .i64 ((r : Nat) : Int)) ([⟨g, 10, (List.map Entry.row l), some r⟩] : Heap) (sat_cap (o := (opIn Try.f88 8 4)) (t := 108) (e0 := 70) (ti := { d := .slice 70, size := 1, bytes := 24, zero := [.sl .nil 0 []] }) (id := 0) (g := g) (e := 0) (n := l.length) (k := 10) (r := r) (els := (List.map Entry.row l)) ttOk kr kr kr rfl kr kr rfl : Sat Try.prog (X InsEG_ann) (Va_2 g l i x) ([⟨g, 10, (List.map Entry.row l), some r⟩] : Heap) 1 (opIn Try.f88 8 4) (AV.int .i64 ((r : Nat) : Int)) ([⟨g, 10, (List.map Entry.row l), some r⟩] : Heap)) (.y 5 (AV.bool (decide (((l.length + 1 : Nat) : Int) > ((r : Nat) : Int)))) (AV.bool true) (Yes.bool om) (.g (.yes (.r (.so 2 0 g 10 0 l.length 0 ((i : Nat) : Int) (AV.osl 0 g 10 0 i) (slice_osl (l := 0) (h := i) om om om om om om) (.y 5 (.int .i64 (IntKind.i64.wrap (((l.length : Nat) : Int) + 1))) (AV.int .i64 ((l.length + 1 : Nat) : Int)) (Yes.add ow ow ow) (.y 7 (.int .i64 (IntKind.i64.wrap (((l.length + 1 : Nat) : Int) - ((i : Nat) : Int)))) (AV.int .i64 ((l.length + 1 - i : Nat) : Int)) (Yes.add ow ow ow) (.t 8 (AV.osl 1 0 10 0 (l.length + 1)) (Va_3 g l r i) (sat_make (o := (opIn Try.f88 9 8)) (t := 108) (e0 := 70) (ti := { d := .slice 70, size := 1, bytes := 24, zero := [.sl .nil 0 []] }) (id := 0) (g := g) (e := 0) (n := i) (t' := 3) (te := { d := .struct [(58, 0), (2, 9)], size := 10, bytes := 96, zero := [.str ⟨#[]⟩, .str ⟨#[]⟩, .int .i64 0, .int .i64 0, .int .i64 0, .int .i64 0, .int .i64 0, .int .i64 0, .bool false, .int .i64 0] }) (ti' := { d := .int .i64, size := 1, bytes := 8, zero := [.int .i64 0] }) (kk := .i64) (kx := .i64) (k := 10) (r := r) (c := l.length + 1 - i) (els := (List.map Entry.row l)) (ys := List.map Entry.row (l.take i)) (els' := (List.map Entry.row (l.take i) ++ List.replicate (l.length + 1 - i) (List.replicate 10 AV.unk))) ttOk kr kr kr rfl kr kr rfl rfl kr kr (by simp [rowsIn, List.map_take]; omega) om kr om (by decide) (by decide) om (by show _ * 96 ≤ _; omega) om om rfl : Sat Try.prog (X InsEG_ann) (mkF 95 [(0, (AV.osl 0 g 10 0 l.length)), (1, (AV.int .i64 ((i : Nat) : Int))), (2, (AV.sl .clip 10 [(Entry.row x)])), (6, (AV.sl .nil 0 [])), (7, (AV.int .i64 1)), (8, (AV.int .i64 ((l.length : Nat) : Int))), (10, (AV.osl 0 g 10 0 l.length)), (11, (AV.int .i64 ((i : Nat) : Int))), (12, (AV.osl 0 g 10 i (l.length - i))), (13, (AV.sl .clip 10 [(Entry.row x)])), (14, (AV.int .i64 1)), (15, (AV.int .i64 1)), (16, (AV.bool false)), (18, (AV.osl 0 g 10 0 l.length)), (19, (AV.int .i64 ((l.length : Nat) : Int))), (20, (AV.int .i64 ((i : Nat) : Int))), (21, (AV.int .i64 ((l.length : Nat) : Int))), (22, (AV.bool false)), (26, (AV.int .i64 ((l.length : Nat) : Int))), (27, (AV.int .i64 1)), (28, (AV.int .i64 ((l.length + 1 : Nat) : Int))), (29, (AV.osl 0 g 10 0 l.length)), (30, (AV.int .i64 ((r : Nat) : Int))), (31, (AV.bool true)), (32, (AV.osl 0 g 10 0 l.length)), (33, (AV.int .i64 ((i : Nat) : Int))), (34, (AV.osl 0 g 10 0 i)), (35, (AV.int .i64 ((l.length : Nat) : Int))), (36, (AV.int .i64 1)), (37, (AV.int .i64 ((l.length + 1 : Nat) : Int))), (38, (AV.int .i64 ((i : Nat) : Int))), (39, (AV.int .i64 ((l.length + 1 - i : Nat) : Int)))]) ([⟨g, 10, (List.map Entry.row l), some r⟩] : Heap) 1 (opIn Try.f88 9 8) (AV.osl 1 0 10 0 (l.length + 1)) (Va_3 g l r i)) (.g (.r (.h' (Va_3 g l r i) (.so 2 1 0 10 0 (l.length + 1) ((i : Nat) : Int) (((l.length + 1) : Nat) : Int) (AV.osl 1 0 10 i ((l.length + 1) - i)) (slice_osl (l := i) (h := (l.length + 1)) om om om om om om) (.t 4 (AV.int .i64 1) (Va_4 g l r i x) (sat_copy (o := (opIn Try.f88 10 4)) (t := 108) (e0 := 70) (ti := { d := .slice 70, size := 1, bytes := 24, zero := [.sl .nil 0 []] }) (id := 1) (g := 0) (e := i) (n := ((l.length + 1) - i)) (t' := 108) (te := { d := .struct [(58, 0), (2, 9)], size := 10, bytes := 96, zero := [.str ⟨#[]⟩, .str ⟨#[]⟩, .int .i64 0, .int .i64 0, .int .i64 0, .int .i64 0, .int .i64 0, .int .i64 0, .bool false, .int .i64 0] }) (k := 10) (els := (List.map Entry.row (l.take i) ++ List.replicate (l.length + 1 - i) (List.replicate 10 AV.unk))) (els' := (List.map Entry.row (l.take i ++ [x]) ++ List.replicate (l.length + 1 - i - 1) (List.replicate 10 AV.unk))) (room := none) (new := [(Entry.row x)]) (s := (AV.sl .clip 10 [(Entry.row x)])) ttOk kr kr kr rfl kr rfl kr kr kr kr om om om (ins1 Entry.row x _ l ow ow) (rfl) rfl : Sat Try.prog (X InsEG_ann) (mkF 95 [(0, (AV.osl 0 g 10 0 l.length)), (1, (AV.int .i64 ((i : Nat) : Int))), (2, (AV.sl .clip 10 [(Entry.row x)])), (6, (AV.sl .nil 0 [])), (7, (AV.int .i64 1)), (8, (AV.int .i64 ((l.length : Nat) : Int))), (9, (AV.osl 1 0 10 0 (l.length + 1))), (10, (AV.osl 0 g 10 0 l.length)), (11, (AV.int .i64 ((i : Nat) : Int))), (12, (AV.osl 0 g 10 i (l.length - i))), (13, (AV.sl .clip 10 [(Entry.row x)])), (14, (AV.int .i64 1)), (15, (AV.int .i64 1)), (16, (AV.bool false)), (18, (AV.osl 0 g 10 0 l.length)), (19, (AV.int .i64 ((l.length : Nat) : Int))), (20, (AV.int .i64 ((i : Nat) : Int))), (21, (AV.int .i64 ((l.length : Nat) : Int))), (22, (AV.bool false)), (26, (AV.int .i64 ((l.length : Nat) : Int))), (27, (AV.int .i64 1)), (28, (AV.int .i64 ((l.length + 1 : Nat) : Int))), (29, (AV.osl 0 g 10 0 l.length)), (30, (AV.int .i64 ((r : Nat) : Int))), (31, (AV.bool true)), (32, (AV.osl 0 g 10 0 l.length)), (33, (AV.int .i64 ((i : Nat) : Int))), (34, (AV.osl 0 g 10 0 i)), (35, (AV.int .i64 ((l.length : Nat) : Int))), (36, (AV.int .i64 1)), (37, (AV.int .i64 ((l.length + 1 : Nat) : Int))), (38, (AV.int .i64 ((i : Nat) : Int))), (39, (AV.int .i64 ((l.length + 1 - i : Nat) : Int))), (40, (AV.osl 1 0 10 0 (l.length + 1))), (41, (AV.osl 1 0 10 0 (l.length + 1))), (42, (AV.int .i64 ((i : Nat) : Int))), (43, (AV.osl 1 0 10 i ((l.length + 1) - i))), (44, (AV.sl .clip 10 [(Entry.row x)]))]) (Va_3 g l r i) 2 (opIn Try.f88 10 4) (AV.int .i64 1) (Va_4 g l r i x)) (.g (.r (.h' (Va_4 g l r i x) (.y 3 (.int .i64 (IntKind.i64.wrap (((i : Nat) : Int) + 1))) (AV.int .i64 ((i + 1 : Nat) : Int)) (Yes.add ow ow ow) (.so 4 1 0 10 0 (l.length + 1) ((i + 1 : Nat) : Int) (((l.length + 1) : Nat) : Int) (AV.osl 1 0 10 (i + 1) ((l.length + 1) - (i + 1))) (slice_osl (l := i + 1) (h := (l.length + 1)) om om om om om om) (.so 7 0 g 10 0 l.length ((i : Nat) : Int) ((l.length : Nat) : Int) (AV.osl 0 g 10 i (l.length - i)) (slice_osl (l := i) (h := l.length) om om om om om om) (.t 8 (AV.int .i64 (((l.length - i) : Nat) : Int)) (Va_1 g l r i x) (sat_copy (o := (opIn Try.f88 11 8)) (t := 108) (e0 := 70) (ti := { d := .slice 70, size := 1, bytes := 24, zero := [.sl .nil 0 []] }) (id := 1) (g := 0) (e := (i + 1)) (n := ((l.length + 1) - (i + 1))) (t' := 108) (te := { d := .struct [(58, 0), (2, 9)], size := 10, bytes := 96, zero := [.str ⟨#[]⟩, .str ⟨#[]⟩, .int .i64 0, .int .i64 0, .int .i64 0, .int .i64 0, .int .i64 0, .int .i64 0, .bool false, .int .i64 0] }) (k := 10) (els := (List.map Entry.row (l.take i ++ [x]) ++ List.replicate (l.length + 1 - i - 1) (List.replicate 10 AV.unk))) (els' := (List.map Entry.row (l.take i ++ x :: l.drop i))) (room := none) (new := List.map Entry.row (l.drop i)) (s := (AV.osl 0 g 10 i (l.length - i))) ttOk kr kr kr rfl kr rfl kr kr kr (by simp [rowsIn, List.map_drop, List.take_of_length_le] <;> omega) om om om (ins2 Entry.row x _ l ow ow) om rfl : Sat Try.prog (X InsEG_ann) (mkF 95 [(0, (AV.osl 0 g 10 0 l.length)), (1, (AV.int .i64 ((i : Nat) : Int))), (2, (AV.sl .clip 10 [(Entry.row x)])), (6, (AV.sl .nil 0 [])), (7, (AV.int .i64 1)), (8, (AV.int .i64 ((l.length : Nat) : Int))), (9, (AV.osl 1 0 10 0 (l.length + 1))), (10, (AV.osl 0 g 10 0 l.length)), (11, (AV.int .i64 ((i : Nat) : Int))), (12, (AV.osl 0 g 10 i (l.length - i))), (13, (AV.sl .clip 10 [(Entry.row x)])), (14, (AV.int .i64 1)), (15, (AV.int .i64 1)), (16, (AV.bool false)), (18, (AV.osl 0 g 10 0 l.length)), (19, (AV.int .i64 ((l.length : Nat) : Int))), (20, (AV.int .i64 ((i : Nat) : Int))), (21, (AV.int .i64 ((l.length : Nat) : Int))), (22, (AV.bool false)), (26, (AV.int .i64 ((l.length : Nat) : Int))), (27, (AV.int .i64 1)), (28, (AV.int .i64 ((l.length + 1 : Nat) : Int))), (29, (AV.osl 0 g 10 0 l.length)), (30, (AV.int .i64 ((r : Nat) : Int))), (31, (AV.bool true)), (32, (AV.osl 0 g 10 0 l.length)), (33, (AV.int .i64 ((i : Nat) : Int))), (34, (AV.osl 0 g 10 0 i)), (35, (AV.int .i64 ((l.length : Nat) : Int))), (36, (AV.int .i64 1)), (37, (AV.int .i64 ((l.length + 1 : Nat) : Int))), (38, (AV.int .i64 ((i : Nat) : Int))), (39, (AV.int .i64 ((l.length + 1 - i : Nat) : Int))), (40, (AV.osl 1 0 10 0 (l.length + 1))), (41, (AV.osl 1 0 10 0 (l.length + 1))), (42, (AV.int .i64 ((i : Nat) : Int))), (43, (AV.osl 1 0 10 i ((l.length + 1) - i))), (44, (AV.sl .clip 10 [(Entry.row x)])), (45, (AV.int .i64 1)), (46, (AV.osl 1 0 10 0 (l.length + 1))), (47, (AV.int .i64 ((i : Nat) : Int))), (48, (AV.int .i64 1)), (49, (AV.int .i64 ((i + 1 : Nat) : Int))), (50, (AV.osl 1 0 10 (i + 1) ((l.length + 1) - (i + 1)))), (51, (AV.osl 0 g 10 0 l.length)), (52, (AV.int .i64 ((i : Nat) : Int))), (53, (AV.osl 0 g 10 i (l.length - i)))]) (Va_4 g l r i x) 2 (opIn Try.f88 11 8) (AV.int .i64 (((l.length - i) : Nat) : Int)) (Va_1 g l r i x)) (.g (.r (.g (.h' (Va_1 g l r i x) (.e (AV.osl 1 0 10 0 (l.length + 1))))))))))))))))))))))))))))))))))))))))))))))
def InsER_ann : Ann := { big := [40, 60], base := 1, fin := some 1 }
@[simp] abbrev Va_5 (v1_ : Nat) (v2_ : List Entry) (v3_ : Nat) (v4_ : Entry) (v5_ : Nat) : Heap := [⟨v1_, 10, (List.map Entry.row (v2_.take v3_ ++ v4_ :: v2_.drop v3_)), some v5_⟩]
@[simp] abbrev Va_6 (v1_ : Nat) (v2_ : List Entry) (v3_ : Nat) (v4_ : Nat) : Heap := [⟨v1_, 10, (List.map Entry.row (v2_.take (v3_ + 1) ++ v2_.drop v3_)), some v4_⟩]
set_option maxRecDepth 100000 in
theorem InsER_spec (l : List Entry) (x : Entry) (g i r : Nat) (hi : i < l.length) (hl : l.length < 1048576) (hr : l.length + 1 ≤ r) : ACalls Try.prog 88 [(.osl 0 g 10 0 l.length), (.int .i64 ((i : Nat) : Int)), (.sl .clip 10 [(Entry.row x)])] ([⟨g, 10, (List.map Entry.row l), some r⟩] : Heap) ((AV.osl 0 g 10 0 (l.length + 1)), (Va_5 g l i x r)) :=
  specO (fn := Try.f88) (ann := InsER_ann) (Has.o Try.func88) (.r (.g (.r (.so 2 0 g 10 0 l.length ((i : Nat) : Int) ((l.length : Nat) : Int) (AV.osl 0 g 10 i (l.length - i)) (slice_osl (l := i) (h := l.length) om om om om om om) (.g (.r (.g (.r (.g (.no (.r (.g (.r (.y 2 (AV.bool (((i : Nat) : Int) == ((l.length : Nat) : Int))) (AV.bool false) (Yes.bool om) (.g (.no (.r (.y 2 (.int .i64 (IntKind.i64.wrap (((l.length : Nat) : Int) + 1))) (AV.int .i64 ((l.length + 1 : Nat) : Int)) (Yes.add ow ow ow) (.t 4 (AV.int .i64 ((r : Nat) : Int)) ([⟨g, 10, (List.map Entry.row l), some r⟩] : Heap) (sat_cap (o := (opIn Try.f88 8 4)) (t := 108) (e0 := 70) (ti := { d := .slice 70, size := 1, bytes := 24, zero := [.sl .nil 0 []] }) (id := 0) (g := g) (e := 0) (n := l.length) (k := 10) (r := r) (els := (List.map Entry.row l)) ttOk kr kr kr rfl kr kr rfl : Sat Try.prog (X InsER_ann) (Va_2 g l i x) ([⟨g, 10, (List.map Entry.row l), some r⟩] : Heap) 1 (opIn Try.f88 8 4) (AV.int .i64 ((r : Nat) : Int)) ([⟨g, 10, (List.map Entry.row l), some r⟩] : Heap)) (.y 5 (AV.bool (decide (((l.length + 1 : Nat) : Int) > ((r : Nat) : Int)))) (AV.bool false) (Yes.bool om) (.g (.no (.r (.y 3 (.int .i64 (IntKind.i64.wrap (((l.length : Nat) : Int) + 1))) (AV.int .i64 ((l.length + 1 : Nat) : Int)) (Yes.add ow ow ow) (.t 4 (AV.osl 0 g 10 0 (l.length + 1)) ([⟨g, 10, (List.map Entry.row l), some r⟩] : Heap) (sat_slice (o := (opIn Try.f88 13 4)) (t := 108) (e0 := 70) (ti := { d := .slice 70, size := 1, bytes := 24, zero := [.sl .nil 0 []] }) (id := 0) (g := g) (e := 0) (n := l.length) (te := { d := .struct [(58, 0), (2, 9)], size := 10, bytes := 96, zero := [.str ⟨#[]⟩, .str ⟨#[]⟩, .int .i64 0, .int .i64 0, .int .i64 0, .int .i64 0, .int .i64 0, .int .i64 0, .bool false, .int .i64 0] }) (k := 10) (r := r) (l := 0) (h := l.length + 1) (els := (List.map Entry.row l)) ttOk kr kr kr rfl kr rfl kr kr kr kr om om om om : Sat Try.prog (X InsER_ann) (mkF 95 [(0, (.osl 0 g 10 0 l.length)), (1, (.int .i64 ((i : Nat) : Int))), (2, (.sl .clip 10 [(Entry.row x)])), (6, (.sl .nil 0 [])), (7, (.int .i64 1)), (8, (.int .i64 ((l.length : Nat) : Int))), (10, (.osl 0 g 10 0 l.length)), (11, (.int .i64 ((i : Nat) : Int))), (12, (.osl 0 g 10 i (l.length - i))), (13, (.sl .clip 10 [(Entry.row x)])), (14, (.int .i64 1)), (15, (.int .i64 1)), (16, (.bool false)), (18, (.osl 0 g 10 0 l.length)), (19, (.int .i64 ((l.length : Nat) : Int))), (20, (.int .i64 ((i : Nat) : Int))), (21, (.int .i64 ((l.length : Nat) : Int))), (22, (.bool false)), (26, (.int .i64 ((l.length : Nat) : Int))), (27, (.int .i64 1)), (28, (.int .i64 ((l.length + 1 : Nat) : Int))), (29, (.osl 0 g 10 0 l.length)), (30, (.int .i64 ((r : Nat) : Int))), (31, (.bool false)), (56, (.osl 0 g 10 0 l.length)), (57, (.int .i64 ((l.length : Nat) : Int))), (58, (.int .i64 1)), (59, (.int .i64 ((l.length + 1 : Nat) : Int)))]) ([⟨g, 10, (List.map Entry.row l), some r⟩] : Heap) 1 (opIn Try.f88 13 4) (AV.osl 0 g 10 0 (l.length + 1)) ([⟨g, 10, (List.map Entry.row l), some r⟩] : Heap)) (.g (.r (.y 4 (.int .i64 (IntKind.i64.wrap (((i : Nat) : Int) + 1))) (AV.int .i64 ((i + 1 : Nat) : Int)) (Yes.add ow ow ow) (.so 5 0 g 10 0 (l.length + 1) ((i + 1 : Nat) : Int) (((l.length + 1) : Nat) : Int) (AV.osl 0 g 10 (i + 1) ((l.length + 1) - (i + 1))) (slice_osl (l := i + 1) (h := (l.length + 1)) om om om om om om) (.t 6 (AV.bool false) ([⟨g, 10, (List.map Entry.row l), some r⟩] : Heap) (acalls_overlaps (tS := 108) (tR := 4) (e0 := 70) (o := ⟨g, 10, (List.map Entry.row l), some r⟩) (hcInsE) (tok_slice ttOk (ti := { d := .slice 70, size := 1, bytes := 24, zero := [.sl .nil 0 []] }) kr rfl) (fun w => (ttOk 70 { d := .struct [(58, 0), (2, 9)], size := 10, bytes := 96, zero := [.str ⟨#[]⟩, .str ⟨#[]⟩, .int .i64 0, .int .i64 0, .int .i64 0, .int .i64 0, .int .i64 0, .int .i64 0, .bool false, .int .i64 0] } kr).sizeOf w) (by decide) kr rfl : ACalls Try.prog 135 [(.sl .clip 10 [(Entry.row x)]), (.osl 0 g 10 (i + 1) ((l.length + 1) - (i + 1)))] ([⟨g, 10, (List.map Entry.row l), some r⟩] : Heap) ((AV.bool false), ([⟨g, 10, (List.map Entry.row l), some r⟩] : Heap))) (.g (.yes (.r (.y 3 (.int .i64 (IntKind.i64.wrap (((i : Nat) : Int) + 1))) (AV.int .i64 ((i + 1 : Nat) : Int)) (Yes.add ow ow ow) (.so 4 0 g 10 0 (l.length + 1) ((i + 1 : Nat) : Int) (((l.length + 1) : Nat) : Int) (AV.osl 0 g 10 (i + 1) ((l.length + 1) - (i + 1))) (slice_osl (l := i + 1) (h := (l.length + 1)) om om om om om om) (.so 7 0 g 10 0 (l.length + 1) ((i : Nat) : Int) (((l.length + 1) : Nat) : Int) (AV.osl 0 g 10 i ((l.length + 1) - i)) (slice_osl (l := i) (h := (l.length + 1)) om om om om om om) (.t 8 (AV.int .i64 ((((l.length + 1) - (i + 1)) : Nat) : Int)) (Va_6 g l i r) (sat_copyN (o := (opIn Try.f88 15 8)) (t := 108) (e0 := 70) (ti := { d := .slice 70, size := 1, bytes := 24, zero := [.sl .nil 0 []] }) (id := 0) (g := g) (e := (i + 1)) (n := ((l.length + 1) - (i + 1))) (t' := 108) (te := { d := .struct [(58, 0), (2, 9)], size := 10, bytes := 96, zero := [.str ⟨#[]⟩, .str ⟨#[]⟩, .int .i64 0, .int .i64 0, .int .i64 0, .int .i64 0, .int .i64 0, .int .i64 0, .bool false, .int .i64 0] }) (k := 10) (els := (List.map Entry.row l)) (els' := (List.map Entry.row (l.take (i + 1) ++ l.drop i))) (room := some r) (id2 := 0) (g2 := g) (e2 := i) (n2 := ((l.length + 1) - i)) (els2 := (List.map Entry.row l)) (room2 := some r) ttOk kr kr kr rfl kr rfl kr kr kr kr om om om om (by rw [show l.length + 1 - (i + 1) = l.length - i by omega]; exact ins3 Entry.row l hi) rfl rfl : Sat Try.prog (X InsER_ann) (mkF 95 [(0, (.osl 0 g 10 0 (l.length + 1))), (1, (.int .i64 ((i : Nat) : Int))), (2, (.sl .clip 10 [(Entry.row x)])), (6, (.sl .nil 0 [])), (7, (.int .i64 1)), (8, (.int .i64 ((l.length : Nat) : Int))), (10, (.osl 0 g 10 0 l.length)), (11, (.int .i64 ((i : Nat) : Int))), (12, (.osl 0 g 10 i (l.length - i))), (13, (.sl .clip 10 [(Entry.row x)])), (14, (.int .i64 1)), (15, (.int .i64 1)), (16, (.bool false)), (18, (.osl 0 g 10 0 l.length)), (19, (.int .i64 ((l.length : Nat) : Int))), (20, (.int .i64 ((i : Nat) : Int))), (21, (.int .i64 ((l.length : Nat) : Int))), (22, (.bool false)), (26, (.int .i64 ((l.length : Nat) : Int))), (27, (.int .i64 1)), (28, (.int .i64 ((l.length + 1 : Nat) : Int))), (29, (.osl 0 g 10 0 l.length)), (30, (.int .i64 ((r : Nat) : Int))), (31, (.bool false)), (56, (.osl 0 g 10 0 l.length)), (57, (.int .i64 ((l.length : Nat) : Int))), (58, (.int .i64 1)), (59, (.int .i64 ((l.length + 1 : Nat) : Int))), (60, (.osl 0 g 10 0 (l.length + 1))), (61, (.sl .clip 10 [(Entry.row x)])), (62, (.osl 0 g 10 0 (l.length + 1))), (63, (.int .i64 ((i : Nat) : Int))), (64, (.int .i64 1)), (65, (.int .i64 ((i + 1 : Nat) : Int))), (66, (.osl 0 g 10 (i + 1) ((l.length + 1) - (i + 1)))), (67, (.bool false)), (68, (.bool true)), (69, (.osl 0 g 10 0 (l.length + 1))), (70, (.int .i64 ((i : Nat) : Int))), (71, (.int .i64 1)), (72, (.int .i64 ((i + 1 : Nat) : Int))), (73, (.osl 0 g 10 (i + 1) ((l.length + 1) - (i + 1)))), (74, (.osl 0 g 10 0 (l.length + 1))), (75, (.int .i64 ((i : Nat) : Int))), (76, (.osl 0 g 10 i ((l.length + 1) - i)))]) ([⟨g, 10, (List.map Entry.row l), some r⟩] : Heap) 1 (opIn Try.f88 15 8) (AV.int .i64 ((((l.length + 1) - (i + 1)) : Nat) : Int)) (Va_6 g l i r)) (.g (.r (.h' (Va_6 g l i r) (.so 2 0 g 10 0 (l.length + 1) ((i : Nat) : Int) (((l.length + 1) : Nat) : Int) (AV.osl 0 g 10 i ((l.length + 1) - i)) (slice_osl (l := i) (h := (l.length + 1)) om om om om om om) (.t 4 (AV.int .i64 1) (Va_5 g l i x r) (sat_copy (o := (opIn Try.f88 16 4)) (t := 108) (e0 := 70) (ti := { d := .slice 70, size := 1, bytes := 24, zero := [.sl .nil 0 []] }) (id := 0) (g := g) (e := i) (n := ((l.length + 1) - i)) (t' := 108) (te := { d := .struct [(58, 0), (2, 9)], size := 10, bytes := 96, zero := [.str ⟨#[]⟩, .str ⟨#[]⟩, .int .i64 0, .int .i64 0, .int .i64 0, .int .i64 0, .int .i64 0, .int .i64 0, .bool false, .int .i64 0] }) (k := 10) (els := (List.map Entry.row (l.take (i + 1) ++ l.drop i))) (els' := (List.map Entry.row (l.take i ++ x :: l.drop i))) (room := some r) (new := [(Entry.row x)]) (s := (AV.sl .clip 10 [(Entry.row x)])) ttOk kr kr kr rfl kr rfl kr kr kr kr om om om (ins4 Entry.row x l hi) (rfl) rfl : Sat Try.prog (X InsER_ann) (mkF 95 [(0, (.osl 0 g 10 0 (l.length + 1))), (1, (.int .i64 ((i : Nat) : Int))), (2, (.sl .clip 10 [(Entry.row x)])), (6, (.sl .nil 0 [])), (7, (.int .i64 1)), (8, (.int .i64 ((l.length : Nat) : Int))), (10, (.osl 0 g 10 0 l.length)), (11, (.int .i64 ((i : Nat) : Int))), (12, (.osl 0 g 10 i (l.length - i))), (13, (.sl .clip 10 [(Entry.row x)])), (14, (.int .i64 1)), (15, (.int .i64 1)), (16, (.bool false)), (18, (.osl 0 g 10 0 l.length)), (19, (.int .i64 ((l.length : Nat) : Int))), (20, (.int .i64 ((i : Nat) : Int))), (21, (.int .i64 ((l.length : Nat) : Int))), (22, (.bool false)), (26, (.int .i64 ((l.length : Nat) : Int))), (27, (.int .i64 1)), (28, (.int .i64 ((l.length + 1 : Nat) : Int))), (29, (.osl 0 g 10 0 l.length)), (30, (.int .i64 ((r : Nat) : Int))), (31, (.bool false)), (56, (.osl 0 g 10 0 l.length)), (57, (.int .i64 ((l.length : Nat) : Int))), (58, (.int .i64 1)), (59, (.int .i64 ((l.length + 1 : Nat) : Int))), (60, (.osl 0 g 10 0 (l.length + 1))), (61, (.sl .clip 10 [(Entry.row x)])), (62, (.osl 0 g 10 0 (l.length + 1))), (63, (.int .i64 ((i : Nat) : Int))), (64, (.int .i64 1)), (65, (.int .i64 ((i + 1 : Nat) : Int))), (66, (.osl 0 g 10 (i + 1) ((l.length + 1) - (i + 1)))), (67, (.bool false)), (68, (.bool true)), (69, (.osl 0 g 10 0 (l.length + 1))), (70, (.int .i64 ((i : Nat) : Int))), (71, (.int .i64 1)), (72, (.int .i64 ((i + 1 : Nat) : Int))), (73, (.osl 0 g 10 (i + 1) ((l.length + 1) - (i + 1)))), (74, (.osl 0 g 10 0 (l.length + 1))), (75, (.int .i64 ((i : Nat) : Int))), (76, (.osl 0 g 10 i ((l.length + 1) - i))), (77, (.int .i64 ((((l.length + 1) - (i + 1)) : Nat) : Int))), (78, (.osl 0 g 10 0 (l.length + 1))), (79, (.int .i64 ((i : Nat) : Int))), (80, (.osl 0 g 10 i ((l.length + 1) - i))), (81, (.sl .clip 10 [(Entry.row x)]))]) (Va_6 g l i r) 1 (opIn Try.f88 16 4) (AV.int .i64 1) (Va_5 g l i x r)) (.g (.r (.g (.h' (Va_5 g l i x r) (.f 1 (AV.osl 0 g 10 0 (l.length + 1)) (.e (AV.osl 0 g 10 0 (l.length + 1))))))))))))))))))))))))))))))))))))))))))))))))))
@[simp] abbrev Va_7 (v1_ : Nat) (v2_ : List Entry) (v3_ : Nat) (v4_ : Entry) : Heap := [⟨(v1_ + 1), 10, (List.map Entry.row (v2_.take v3_ ++ v4_ :: v2_.drop v3_)), none⟩]
theorem InsE_spec (l : List Entry) (x : Entry) (g i n : Nat) (hn : n = l.length) (hi : i ≤ l.length) (hl : l.length < 1048576) : ACalls Try.prog 88 [(.osl 0 g 10 0 n), (.int .i64 ((i : Nat) : Int)), (.sl .clip 10 [(Entry.row x)])] ([⟨g, 10, (List.map Entry.row l), none⟩] : Heap) ((AV.osl 0 (g + 1) 10 0 (n + 1)), (Va_7 g l i x)) := by
  subst hn
  exact ACalls.insert Entry.rows_bdd hi (InsEE_spec l x g hl) (fun h r hr => InsEG_spec l x g i r h hl hr) (fun h r hr => InsER_spec l x g i r h hl hr)
end Go.Proofs.Ytcmfnfkahdconaa.AM

set_option maxRecDepth 100000
set_option linter.unusedVariables false
set_option linter.unusedSimpArgs false
namespace Go.Proofs.Ytcmfnfkahdconaa.AM
open Go Go.Proofs.Ytcmfnfkahdconaa
attribute [local irreducible] ACalls funT codeT codeQ LoopTo
attribute [local irreducible] Tp.card Tp.cardT Tp.next Tp.step Tp.cards Tp.cardsT Tp.key Tp.keyT sink insSort sortK insK posK beforeK
def findP (l : List Entry) (k : Key) : Nat := (l.takeWhile fun e => beforeK e.card.key k).length
def findB (l : List Entry) (k : Key) : Bool := decide (findP l k < l.length) && Key.eqb (nth l (findP l k)).card.key k
theorem findP_le (l : List Entry) (k : Key) : findP l k ≤ l.length := by
  unfold findP
  have := List.Sublist.length_le (List.takeWhile_sublist (l := l) fun e => beforeK e.card.key k)
  exact this
theorem findP_lt {l : List Entry} {k : Key} : ∀ {i : Nat}, i < findP l k → beforeK (nth l i).card.key k = true := by
  unfold findP
  induction l with
  | nil => intro i h; simp at h
  | cons e l ih =>
    intro i h
    rw [List.takeWhile_cons] at h
    by_cases hb : beforeK e.card.key k = true
    · rw [if_pos hb] at h
      cases i with
      | zero => exact hb
      | succ i => exact ih (by simpa using h)
    · rw [if_neg hb] at h; simp at h
theorem findP_at {l : List Entry} {k : Key} (h : findP l k < l.length) : beforeK (nth l (findP l k)).card.key k = false := by
  unfold findP at *
  induction l with
  | nil => simp at h
  | cons e l ih =>
    rw [List.takeWhile_cons] at h ⊢
    by_cases hb : beforeK e.card.key k = true
    · rw [if_pos hb] at h ⊢
      exact ih (by simpa using h)
    · rw [if_neg hb]
      have h3 : beforeK e.card.key k = false := by simpa using hb
      exact h3
theorem findB_lt {l : List Entry} {k : Key} (h : findB l k = true) : findP l k < l.length := by
  unfold findB at h
  rw [Bool.and_eq_true] at h
  exact of_decide_eq_true h.1
def find_ann : Ann := { refs := [3], base := 2, fin := some 2, live := [(2, [0, 3, 6])], out := [(2, [0, 3, 6])] }
@[simp] abbrev Vb_o1 (v1_ : Int) (v2_ : Nat) (v3_ : Nat) : Ob := ⟨0, 2, [[(AV.int .i64 v1_), (AV.osl 1 v2_ 10 0 v3_)]], none⟩
@[simp] abbrev Vb_1 (v1_ : Int) (v2_ : Nat) (v3_ : Nat) (v4_ : List Entry) : Heap := [Vb_o1 v1_ v2_ v3_, ⟨v2_, 10, (List.map Entry.row v4_), none⟩]
@[simp] abbrev Vb_2 (v1_ : Key) (v2_ : Nat) : Fr := (mkF 50 [(0, (AV.obj 0 0 0 0)), (3, (AV.ref (Key.row v1_) 0)), (6, (AV.int .i64 ((v2_ : Nat) : Int)))])
set_option maxRecDepth 100000 in
theorem find_step (most : Int) (l : List Entry) (k : Key) (g n : Nat) (i : Nat) (hn : n = l.length) (hl : l.length < 1048576) (hi : i ≤ l.length) {eX : Ex} {FX : Fr} {HX : Heap} (k1 : (decide (((i : Nat) : Int) < ((n : Nat) : Int))) = true → (lessK (nth l i).card.key k) = true → LoopTo (codeQ Try.prog (X find_ann) (loopOf Try.f75 0)) (some [0, 3, 6]) (some [0, 3, 6]) (mkF 50 [(0, (.obj 0 0 0 0)), (3, (.ref (Key.row k) 0)), (6, (.int .i64 ((i + 1 : Nat) : Int)))]) (Vb_1 most g n l) eX FX HX) (k2 : (decide (((i : Nat) : Int) < ((n : Nat) : Int))) = true → (lessK (nth l i).card.key k) = false → ((.exit 0 : Ex), (Vb_2 k i), (Vb_1 most g n l)) = (eX, FX, HX)) (k3 : (decide (((i : Nat) : Int) < ((n : Nat) : Int))) = false → ((.exit 0 : Ex), (Vb_2 k i), (Vb_1 most g n l)) = (eX, FX, HX)) : LoopTo (codeQ Try.prog (X find_ann) (loopOf Try.f75 0)) (some [0, 3, 6]) (some [0, 3, 6]) (Vb_2 k i) (Vb_1 most g n l) eX FX HX :=
  stepO (.r (.two (decide (((i : Nat) : Int) < ((n : Nat) : Int))) (fun h1 h1' => (.yes (.yes (.yes (.yes (.yes (.io 13 1 g 10 10 0 n ((i : Nat) : Int) i (IdxOsl.mk _ ow ow) (.yes (.yes (.yes (.t 16 (AV.agg (Key.row (nth l i).card.key)) (Vb_1 most g n l) (load_row (rowAt_map (row := Entry.row) (l := l) (k := 10) (room := none) kr om) kr : LoadTo tt 31 0 (Vb_1 most g n l) (rowAt (Vb_1 most g n l) 1 g i) = some ((AV.agg (Key.row (nth l i).card.key)), (Vb_1 most g n l))) (.yes (.yes (.c 18 (keyLess_at (nth l i).card.key k  (Vb_1 most g n l)) (.g (.two (lessK (nth l i).card.key k) (fun h2 h2' => (.r (.y 1 (.int .i64 (IntKind.i64.wrap (((i : Nat) : Int) + 1))) (AV.int .i64 ((i + 1 : Nat) : Int)) (Yes.add ow ow ow) (.g (.l (k1 h1 h2)))))) (fun h2 h2' => (.l (k2 h1 h2))))))))))))))))))) (fun h1 h1' => (.no (.no (.no (.no (.no (.no (.no (.no (.no (.no (.g (.no (.l (k3 h1)))))))))))))))))
@[simp] abbrev Vb_3 (v1_ : Key) (v2_ : List Entry) : Fr := (mkF 50 [(0, (AV.obj 0 0 0 0)), (3, (AV.ref (Key.row v1_) 0)), (6, (AV.int .i64 (((findP v2_ v1_) : Nat) : Int)))])
theorem find_loop (most : Int) (l : List Entry) (k : Key) (g n : Nat) (hn : n = l.length) (hl : l.length < 1048576) (r : Nat) : ∀ (i : Nat), i + r = findP l k →
    LoopTo (codeQ Try.prog (X find_ann) (loopOf Try.f75 0)) (some [0, 3, 6]) (some [0, 3, 6]) (Vb_2 k i) (Vb_1 most g n l) (.exit 0) (Vb_3 k l) (Vb_1 most g n l) := by
  have hle := findP_le l k
  induction r with
  | zero =>
    intro i hi
    obtain rfl : i = findP l k := by omega
    refine find_step most l k g n (findP l k) hn hl ow (fun h1 h2 => ?_) (fun _ _ => rfl) (fun _ => rfl)
    rw [less_before, findP_at (by have := of_decide_eq_true h1; omega)] at h2; simp at h2
  | succ r ih =>
    intro i hi
    refine find_step most l k g n i hn hl ow (fun _ _ => ih (i + 1) ow) (fun _ h2 => ?_) (fun h1 => ?_)
    · rw [less_before, findP_lt (show i < findP l k by omega)] at h2; simp at h2
    · simp at h1; omega
set_option maxRecDepth 100000 in
theorem find_spec (most : Int) (l : List Entry) (k : Key) (g n : Nat) (hn : n = l.length) (hl : l.length < 1048576) : ACalls Try.prog 75 [(.obj 0 0 0 0), (.agg (Key.row k))] (Vb_1 most g n l) ((AV.tup [(.int .i64 (((findP l k) : Nat) : Int)), (.bool (findB l k))]), (Vb_1 most g n l)) := by
  have hle := findP_le l k
  exact specO (fn := Try.f75) (ann := find_ann) (Has.o Try.func75) (.r (.g (.r (.g (.loop (Vb_3 k l) (show LoopTo (codeQ Try.prog (X find_ann) (loopOf Try.f75 0)) (some [0, 3, 6]) (some [0, 3, 6]) (mkF 50 [(0, (.obj 0 0 0 0)), (3, (.ref (Key.row k) 0)), (6, (.int .i64 0))]) (Vb_1 most g n l) (.exit 0) (Vb_3 k l) (Vb_1 most g n l) from (find_loop most l k g n hn hl (findP l k) 0 ow)) (.r (.two (decide ((((findP l k) : Nat) : Int) < ((n : Nat) : Int))) (fun h1 h1' => (.yes (.yes (.yes (.yes (.yes (.io 14 1 g 10 10 0 n (((findP l k) : Nat) : Int) (findP l k) (IdxOsl.mk _ ow ow) (.yes (.yes (.yes (.t 17 (AV.agg (Key.row (nth l (findP l k)).card.key)) (Vb_1 most g n l) (load_row (rowAt_map (row := Entry.row) (l := l) (k := 10) (room := none) kr om) kr : LoadTo tt 31 0 (Vb_1 most g n l) (rowAt (Vb_1 most g n l) 1 g (findP l k)) = some ((AV.agg (Key.row (nth l (findP l k)).card.key)), (Vb_1 most g n l))) (.yes (.yes (.g (.f 2 (AV.tup [(.int .i64 (((findP l k) : Nat) : Int)), (.bool (Key.eqb (nth l (findP l k)).card.key k))]) (.e (AV.tup [(.int .i64 (((findP l k) : Nat) : Int)), (.bool (Key.eqb (nth l (findP l k)).card.key k))]) (by
        try delta Vb_1 Vb_o1
        have hb : findB l k = Key.eqb (nth l (findP l k)).card.key k := by unfold findB; first | (simp_all; done) | (simp_all; omega) | (simp_all; intro h; omega)
        rw [hb]))))))))))))))))) (fun h1 h1' => (.no (.no (.no (.no (.no (.no (.no (.no (.no (.no (.g (.f 2 (AV.tup [(AV.int .i64 (((findP l k) : Nat) : Int)), (AV.bool false)]) (.e (AV.tup [(AV.int .i64 (((findP l k) : Nat) : Int)), (AV.bool false)]) (by
        try delta Vb_1 Vb_o1
        have hb : findB l k = false := by unfold findB; first | (simp_all; done) | (simp_all; omega) | (simp_all; intro h; omega)
        rw [hb]))))))))))))))))))))))
theorem find_at (most : Int) (l : List Entry) (k : Key) (g n : Nat) (hn : n = l.length) (hl : l.length < 1048576) (H : Heap) : ACalls Try.prog 75 [(.obj 0 0 0 0), (.agg (Key.row k))] ((Vb_1 most g n l) ++ H) ((AV.tup [(.int .i64 (((findP l k) : Nat) : Int)), (.bool (findB l k))]), (Vb_1 most g n l) ++ H) := (find_spec most l k g n hn hl).ext kr kr ob ob kr H
def putIn_ann : Ann := { refs := [3], base := 2, fin := some 2 }
@[simp] abbrev Vb_4 (v1_ : Int) (v2_ : Nat) (v3_ : Nat) (v4_ : List Entry) (v5_ : Entry) : Heap := [Vb_o1 v1_ v2_ v3_, ⟨v2_, 10, (List.map Entry.row (v4_.set (findP v4_ v5_.card.key) v5_)), none⟩]
set_option maxRecDepth 100000 in
theorem putIn_spec (most : Int) (l : List Entry) (e : Entry) (g n : Nat) (hn : n = l.length) (hl : l.length < 1048576) (hb : findB l e.card.key = true) : ACalls Try.prog 45 [(.obj 0 0 0 0), (.agg (Entry.row e))] (Vb_1 most g n l) ((AV.int .i64 0), (Vb_4 most g n l e)) := by
  have hle := findP_le l e.card.key
  have hlt := findB_lt hb
  exact specO (fn := Try.f45) (ann := putIn_ann) (Has.o Try.func45) (.r (.g (.r (.c 4 (find_at most l e.card.key g n oa oa ([] : Heap)) (.g (.r (.y 0 (AV.bool (findB l e.card.key)) (AV.bool true) (Yes.bool (hb)) (.g (.yes (.r (.io 6 1 g 10 10 0 n (((findP l e.card.key) : Nat) : Int) (findP l e.card.key) (IdxOsl.mk _ ow ow) (.st 7 1 g (findP l e.card.key) 10 0 (AV.agg (Entry.row e)) (Vb_4 most g n l e) (store_row (us := (Entry.row e)) (rowAt_map (row := Entry.row) (l := l) (k := 10) (room := none) kr om) kr (by simp [Entry.row]) (by simp [setAt, fillAt, List.map_set, Entry.row])) (.g (.r (.g (.f 2 (AV.int .i64 0) (.e (AV.int .i64 0))))))))))))))))))
def putFull_ann : Ann := { refs := [3], base := 2, fin := some 2 }
set_option maxRecDepth 100000 in
theorem putFull_spec (most : Int) (l : List Entry) (e : Entry) (g n : Nat) (hn : n = l.length) (hl : l.length < 1048576) (hb : findB l e.card.key = false) (hm : most ≤ (n : Int)) : ACalls Try.prog 45 [(.obj 0 0 0 0), (.agg (Entry.row e))] ([⟨0, 2, [[(.int .i64 most), (.osl 1 g 10 0 n)]], none⟩, ⟨g, 10, (List.map Entry.row l), none⟩] : Heap) ((AV.int .i64 24), ([⟨0, 2, [[(.int .i64 most), (.osl 1 g 10 0 n)]], none⟩, ⟨g, 10, (List.map Entry.row l), none⟩] : Heap)) := by
  have hle := findP_le l e.card.key
  exact specO (fn := Try.f45) (ann := putFull_ann) (Has.o Try.func45) (.r (.g (.r (.c 4 (find_at most l e.card.key g n oa oa ([] : Heap)) (.g (.r (.y 0 (AV.bool (findB l e.card.key)) (AV.bool false) (Yes.bool (hb)) (.g (.no (.r (.y 9 (AV.bool (decide (((n : Nat) : Int) ≥ most))) (AV.bool true) (Yes.bool om) (.g (.yes (.r (.g (.f 2 (AV.int .i64 24) (.e (AV.int .i64 24))))))))))))))))))
def putNew_ann : Ann := { refs := [3], base := 2, fin := some 2 }
set_option maxRecDepth 100000 in
theorem putNew_spec (most : Int) (l : List Entry) (e : Entry) (g n : Nat) (hn : n = l.length) (hl : l.length < 1048576) (hb : findB l e.card.key = false) (hm : (n : Int) < most) : ACalls Try.prog 45 [(.obj 0 0 0 0), (.agg (Entry.row e))] ([⟨0, 2, [[(.int .i64 most), (.osl 1 g 10 0 n)]], none⟩, ⟨g, 10, (List.map Entry.row l), none⟩] : Heap) ((AV.int .i64 0), ([⟨0, 2, [[(.int .i64 most), (.osl 1 (g + 1) 10 0 (n + 1))]], none⟩, ⟨(g + 1), 10, (List.map Entry.row (l.take (findP l e.card.key) ++ e :: l.drop (findP l e.card.key))), none⟩] : Heap)) := by
  have hle := findP_le l e.card.key
  exact specO (fn := Try.f45) (ann := putNew_ann) (Has.o Try.func45) (.r (.g (.r (.c 4 (find_at most l e.card.key g n oa oa ([] : Heap)) (.g (.r (.y 0 (AV.bool (findB l e.card.key)) (AV.bool false) (Yes.bool (hb)) (.g (.no (.r (.y 9 (AV.bool (decide (((n : Nat) : Int) ≥ most))) (AV.bool false) (Yes.bool (by simp; omega)) (.g (.no (.r (.ch 8 ([⟨0, 2, [[(AV.int .i64 most), (AV.osl 1 g 10 0 n)]], none⟩, ⟨(g + 1), 10, (List.map Entry.row (l.take (findP l e.card.key) ++ e :: l.drop (findP l e.card.key))), none⟩] : Heap) (ACalls.pre (args' := [(AV.osl 1 g 10 0 n), (AV.int .i64 (((findP l e.card.key) : Nat) : Int)), (AV.sl .clip 10 [(Entry.row e)])]) (ACalls.put2 [1] ([⟨0, 2, [[(AV.int .i64 most), (AV.osl 1 g 10 0 n)]], none⟩, ⟨g, 10, (List.map Entry.row l), none⟩] : Heap) (AV.osl 1 (g + 1) 10 0 (n + 1)) ([⟨0, 2, [[(AV.int .i64 most), (AV.osl 1 g 10 0 n)]], none⟩, ⟨(g + 1), 10, (List.map Entry.row (l.take (findP l e.card.key) ++ e :: l.drop (findP l e.card.key))), none⟩] : Heap) (InsE_spec l e g (findP l e.card.key) n oa oa oa) (⟨Ob.ren0 (Entry.rows_bdd 0 _), trivial⟩) (⟨Ob.ren0 (Entry.rows_bdd 0 _), trivial⟩)) ⟨AV.wk_refl_any _, AV.wk_refl_any _, ⟨rfl, rfl, .inl rfl⟩, trivial⟩) (.g (.r (.g (.h' ([⟨0, 2, [[(AV.int .i64 most), (AV.osl 1 (g + 1) 10 0 (n + 1))]], none⟩, ⟨(g + 1), 10, (List.map Entry.row (l.take (findP l e.card.key) ++ e :: l.drop (findP l e.card.key))), none⟩] : Heap) (.f 2 (AV.int .i64 0) (.e (AV.int .i64 0))))))))))))))))))))))
def putE (most : Int) (l : List Entry) (e : Entry) : Int := if findB l e.card.key = true then 0 else if most ≤ (l.length : Int) then 24 else 0
def putL (most : Int) (l : List Entry) (e : Entry) : List Entry := if findB l e.card.key = true then l.set (findP l e.card.key) e else if most ≤ (l.length : Int) then l else l.take (findP l e.card.key) ++ e :: l.drop (findP l e.card.key)
def putG (most : Int) (l : List Entry) (e : Entry) (g : Nat) : Nat := if findB l e.card.key = true then g else if most ≤ (l.length : Int) then g else g + 1
theorem putL_len (most : Int) (l : List Entry) (e : Entry) : (putL most l e).length ≤ l.length + 1 := by
  have := findP_le l e.card.key
  unfold putL; split
  · simp
  · split
    · omega
    · simp; omega
def zE : Entry := ⟨⟨⟨⟨#[]⟩, ⟨#[]⟩⟩, 0, 0, 0, ⟨0, 0, 0⟩, false⟩, 0⟩
def getE (l : List Entry) (k : Key) : Entry := if findB l k = true then nth l (findP l k) else zE
theorem put_spec (most : Int) (l : List Entry) (e : Entry) (g n : Nat) (hn : n = l.length) (hl : l.length < 1048576) : ACalls Try.prog 45 [(.obj 0 0 0 0), (.agg (Entry.row e))] ([⟨0, 2, [[(.int .i64 most), (.osl 1 g 10 0 n)]], none⟩, ⟨g, 10, (List.map Entry.row l), none⟩] : Heap) ((AV.int .i64 (putE most l e)), ([⟨0, 2, [[(.int .i64 most), (.osl 1 (putG most l e g) 10 0 (List.length (putL most l e)))]], none⟩, ⟨(putG most l e g), 10, (List.map Entry.row (putL most l e)), none⟩] : Heap)) := by
  subst hn
  have hle := findP_le l e.card.key
  cases hb : findB l e.card.key with
  | true =>
    have h1 : putE most l e = 0 := by simp [putE, hb]
    have h2 : putL most l e = l.set (findP l e.card.key) e := by simp [putL, hb]
    have h3 : putG most l e g = g := by simp [putG, hb]
    rw [h1, h2, h3, List.length_set]
    exact putIn_spec most l e g l.length rfl hl hb
  | false =>
    by_cases hm : most ≤ (l.length : Int)
    · have h1 : putE most l e = 24 := by simp [putE, hb, hm]
      have h2 : putL most l e = l := by simp [putL, hb, hm]
      have h3 : putG most l e g = g := by simp [putG, hb, hm]
      rw [h1, h2, h3]
      exact putFull_spec most l e g l.length rfl hl hb hm
    · have h1 : putE most l e = 0 := by simp [putE, hb, hm]
      have h2 : putL most l e = l.take (findP l e.card.key) ++ e :: l.drop (findP l e.card.key) := by simp [putL, hb, hm]
      have h3 : putG most l e g = g + 1 := by simp [putG, hb, hm]
      have h4 : (l.take (findP l e.card.key) ++ e :: l.drop (findP l e.card.key)).length = l.length + 1 := by simp; omega
      rw [h1, h2, h3, h4]
      exact putNew_spec most l e g l.length rfl hl hb ow
theorem put_at (most : Int) (l : List Entry) (e : Entry) (g n : Nat) (hn : n = l.length) (hl : l.length < 1048576) (H : Heap) : ACalls Try.prog 45 [(.obj 0 0 0 0), (.agg (Entry.row e))] ((Vb_1 most g n l) ++ H) ((AV.int .i64 (putE most l e)), ([⟨0, 2, [[(.int .i64 most), (.osl 1 (putG most l e g) 10 0 (List.length (putL most l e)))]], none⟩, ⟨(putG most l e g), 10, (List.map Entry.row (putL most l e)), none⟩] : Heap) ++ H) := (put_spec most l e g n hn hl).ext kr kr ob ob kr H
def getIn_ann : Ann := { refs := [3], base := 2, fin := some 2 }
@[simp] abbrev Vb_o3  : Ob := ⟨0, 10, [[(AV.str ⟨#[]⟩), (AV.str ⟨#[]⟩), (AV.int .i64 0), (AV.int .i64 0), (AV.int .i64 0), (AV.int .i64 0), (AV.int .i64 0), (AV.int .i64 0), (AV.bool false), (AV.int .i64 0)]], none⟩
@[simp] abbrev Vb_7  : Heap := [Vb_o3]
@[simp] abbrev Vb_8 (v1_ : Int) (v2_ : Nat) (v3_ : Nat) (v4_ : List Entry) : Heap := [Vb_o1 v1_ v2_ v3_, ⟨v2_, 10, (List.map Entry.row v4_), none⟩, Vb_o3]
set_option maxRecDepth 100000 in
theorem getIn_spec (most : Int) (l : List Entry) (k : Key) (g n : Nat) (hn : n = l.length) (hl : l.length < 1048576) (hb : findB l k = true) : ACalls Try.prog 37 [(.obj 0 0 0 0), (.agg (Key.row k))] (Vb_1 most g n l) ((AV.tup [(.agg (Entry.row (nth l (findP l k)))), (.bool true)]), (Vb_1 most g n l)) := by
  have hle := findP_le l k
  have hlt := findB_lt hb
  exact specO (fn := Try.f37) (ann := getIn_ann) (Has.o Try.func37) (.r (.g (.r (.c 2 (find_at most l k g n oa oa Vb_7) (.g (.r (.h' (Vb_8 most g n l) (.y 1 (AV.bool (!(findB l k))) (AV.bool false) (Yes.bool (by rw [hb]; rfl)) (.g (.no (.r (.io 5 1 g 10 10 0 n (((findP l k) : Nat) : Int) (findP l k) (IdxOsl.mk _ ow ow) (.t 6 (AV.agg (Entry.row (nth l (findP l k)))) (Vb_8 most g n l) (load_row (rowAt_map (row := Entry.row) (l := l) (k := 10) (room := none) kr om) kr : LoadTo tt 70 0 (Vb_8 most g n l) (rowAt (Vb_8 most g n l) 1 g (findP l k)) = some ((AV.agg (Entry.row (nth l (findP l k)))), (Vb_8 most g n l))) (.g (.h' (Vb_1 most g n l) (.f 2 (AV.tup [(AV.agg (Entry.row (nth l (findP l k)))), (AV.bool true)]) (.e (AV.tup [(AV.agg (Entry.row (nth l (findP l k)))), (AV.bool true)]))))))))))))))))))
def getOut_ann : Ann := { refs := [3], base := 2, fin := some 2 }
set_option maxRecDepth 100000 in
theorem getOut_spec (most : Int) (l : List Entry) (k : Key) (g n : Nat) (hn : n = l.length) (hl : l.length < 1048576) (hb : findB l k = false) : ACalls Try.prog 37 [(.obj 0 0 0 0), (.agg (Key.row k))] (Vb_1 most g n l) ((AV.tup [(.agg (Entry.row zE)), (.bool false)]), (Vb_1 most g n l)) := by
  have hle := findP_le l k
  exact specO (fn := Try.f37) (ann := getOut_ann) (Has.o Try.func37) (.r (.g (.r (.c 2 (find_at most l k g n oa oa Vb_7) (.g (.r (.h' (Vb_8 most g n l) (.y 1 (AV.bool (!(findB l k))) (AV.bool true) (Yes.bool (by rw [hb]; rfl)) (.g (.yes (.r (.g (.h' (Vb_1 most g n l) (.f 2 (AV.tup [(AV.agg [(AV.str ⟨#[]⟩), (AV.str ⟨#[]⟩), (AV.int .i64 0), (AV.int .i64 0), (AV.int .i64 0), (AV.int .i64 0), (AV.int .i64 0), (AV.int .i64 0), (AV.bool false), (AV.int .i64 0)]), (AV.bool false)]) (.e (AV.tup [(AV.agg [(AV.str ⟨#[]⟩), (AV.str ⟨#[]⟩), (AV.int .i64 0), (AV.int .i64 0), (AV.int .i64 0), (AV.int .i64 0), (AV.int .i64 0), (AV.int .i64 0), (AV.bool false), (AV.int .i64 0)]), (AV.bool false)]))))))))))))))))
theorem get_spec (most : Int) (l : List Entry) (k : Key) (g n : Nat) (hn : n = l.length) (hl : l.length < 1048576) : ACalls Try.prog 37 [(.obj 0 0 0 0), (.agg (Key.row k))] ([⟨0, 2, [[(.int .i64 most), (.osl 1 g 10 0 n)]], none⟩, ⟨g, 10, (List.map Entry.row l), none⟩] : Heap) ((AV.tup [(.agg (Entry.row (getE l k))), (.bool (findB l k))]), ([⟨0, 2, [[(.int .i64 most), (.osl 1 g 10 0 n)]], none⟩, ⟨g, 10, (List.map Entry.row l), none⟩] : Heap)) := by
  cases hb : findB l k with
  | true =>
    have h2 : getE l k = nth l (findP l k) := by simp [getE, hb]
    rw [h2]
    exact getIn_spec most l k g n hn hl hb
  | false =>
    have h2 : getE l k = zE := by simp [getE, hb]
    rw [h2]
    exact getOut_spec most l k g n hn hl hb
theorem get_at (most : Int) (l : List Entry) (k : Key) (g n : Nat) (hn : n = l.length) (hl : l.length < 1048576) (H : Heap) : ACalls Try.prog 37 [(.obj 0 0 0 0), (.agg (Key.row k))] ((Vb_1 most g n l) ++ H) ((AV.tup [(.agg (Entry.row (getE l k))), (.bool (findB l k))]), (Vb_1 most g n l) ++ H) := (get_spec most l k g n hn hl).ext kr kr ob ob kr H
def cloneEN_ann : Ann := { gha := [(2, .vir 2 10)], fin := some 1 }
set_option maxRecDepth 100000 in
theorem cloneEN_spec   : ACalls Try.prog 121 [(.sl .nil 0 [])] ([] : Heap) ((AV.osl 0 0 10 0 0), ([⟨0, 10, (List.map Entry.row []), none⟩] : Heap)) :=
  specO (fn := Try.f121) (ann := cloneEN_ann) (Has.o Try.func121) (.r (.g (.r (.g (.yes (.r (.g (.h' ([⟨0, 10, (List.map Entry.row []), none⟩] : Heap) (.f 1 (AV.osl 0 0 10 0 0) (.e (AV.osl 0 0 10 0 0)))))))))))
def cloneEO_ann : Ann := { own := [7], fin := some 1 }
set_option maxRecDepth 100000 in
theorem cloneEO_spec (l : List Entry) (hl : l.length < 1099511627776) : ACalls Try.prog 121 [(.sl .op 10 (List.map Entry.row l))] ([] : Heap) ((AV.osl 0 0 10 0 l.length), ([⟨0, 10, (List.map Entry.row l), none⟩] : Heap)) :=
  specO (fn := Try.f121) (ann := cloneEO_ann) (Has.o Try.func121) (.r (.g (.r (.g (.no (.r (.ao 2 108 (AV.sl .clip 10 []) (AV.sl .op 10 (List.map Entry.row l)) (AV.osl 0 0 10 0 l.length) ([⟨0, 10, (List.map Entry.row l), none⟩] : Heap) (evAppendO_fresh (T := tt) (e := 70) (te := { d := .struct [(58, 0), (2, 9)], size := 10, bytes := 96, zero := [.str ⟨#[]⟩, .str ⟨#[]⟩, .int .i64 0, .int .i64 0, .int .i64 0, .int .i64 0, .int .i64 0, .int .i64 0, .bool false, .int .i64 0] }) (z := 1) (b := 24) (y := [.sl .nil 0 []]) (row := Entry.row) kr kr rfl (by decide) (by decide) (by simp) (by first | (simp [rowsIn, List.map_take, List.map_drop, List.take_of_length_le]; done) | simp [rowsIn, rU8, rI64, rStr, rBool]) rfl rfl rfl om) (.g (.f 1 (AV.osl 0 0 10 0 l.length) (.e (AV.osl 0 0 10 0 l.length)))))))))))
theorem cloneE_spec (l : List Entry) (hl : l.length < 1099511627776) : ACalls Try.prog 121 [(.sl .any 10 (List.map Entry.row l))] ([] : Heap) ((AV.osl 0 0 10 0 l.length), ([⟨0, 10, (List.map Entry.row l), none⟩] : Heap)) := ACalls.orNil (fun h => by
    have h2 : l = [] := by simpa using h
    subst h2; exact cloneEN_spec) (cloneEO_spec l hl)
def sall_ann : Ann := { gha := [(1, .frz 2)], base := 2, fin := some 2 }
@[simp] abbrev Vb_9 (v1_ : Int) (v2_ : Nat) (v3_ : Nat) (v4_ : List Entry) : Heap := [Vb_o1 v1_ v2_ v3_, ⟨v2_, 10, (List.map Entry.row v4_), none⟩, ⟨0, 10, (List.map Entry.row v4_), none⟩]
set_option maxRecDepth 100000 in
theorem sall_spec (most : Int) (l : List Entry) (g n : Nat) (hn : n = l.length) (hl : l.length < 1048576) : ACalls Try.prog 65 [(.obj 0 0 0 0)] (Vb_1 most g n l) ((AV.sl .any 10 (List.map Entry.row l)), (Vb_1 most g n l)) :=
  specO (fn := Try.f65) (ann := sall_ann) (Has.o Try.func65) (.r (.g (.r (.ch 4 (Vb_9 most g n l) (ACalls.borrow_osl (args := [(AV.sl .any 10 (List.map Entry.row l))]) (args' := [(AV.osl 1 g 10 0 n)]) (H := (Vb_1 most g n l)) (cloneE_spec l oa) (scalss_map (fun _ => rfl) _) (show Brs (Vb_1 most g n l) [(AV.osl 1 g 10 0 n)] [(AV.sl .any 10 (List.map Entry.row l))] from ⟨Br.osl (rowsIn_all (room := none) kr (by first | omega | (simp [List.length_set]; done) | (simp [List.length_set]; omega))) (Entry.rows_bdd _ _), trivial⟩)) (.w' 2 (List.map Entry.row l) (And.intro (rowsIn_all (room := none) kr om) (Entry.rows_bdd _ _) : rowsIn (Vb_9 most g n l) 10 (AV.osl 2 0 10 0 l.length) = some (List.map Entry.row l) ∧ AV.bddss 0 (List.map Entry.row l) = true) (.g (.h' (Vb_1 most g n l) (.f 2 (AV.sl .any 10 (List.map Entry.row l)) (.e (AV.sl .any 10 (List.map Entry.row l)))))))))))
theorem sall_at (most : Int) (l : List Entry) (g n : Nat) (hn : n = l.length) (hl : l.length < 1048576) (H : Heap) : ACalls Try.prog 65 [(.obj 0 0 0 0)] ((Vb_1 most g n l) ++ H) ((AV.sl .any 10 (List.map Entry.row l)), (Vb_1 most g n l) ++ H) := (sall_spec most l g n hn hl).ext kr kr ob ob kr H
end Go.Proofs.Ytcmfnfkahdconaa.AM

set_option maxRecDepth 100000
set_option linter.unusedVariables false
set_option linter.unusedSimpArgs false
namespace Go.Proofs.Ytcmfnfkahdconaa.AM
open Go Go.Proofs.Ytcmfnfkahdconaa
attribute [local irreducible] ACalls funT codeT codeQ LoopTo
attribute [local irreducible] Tp.card Tp.cardT Tp.next Tp.step Tp.cards Tp.cardsT Tp.key Tp.keyT sink insSort sortK insK posK beforeK
attribute [local irreducible] findP findB putL putE putG getE
def capM (most : Int) : Int := max 0 (min most 32)
def new0_ann : Ann := { fin := some 1 }
@[simp] abbrev Vc_1 (v1_ : Int) : Heap := [⟨0, 2, [[(AV.int .i64 (capM v1_)), (AV.sl .nil 0 [])]], none⟩]
set_option maxRecDepth 100000 in
theorem new0_spec (most : Int)  : ACalls Try.prog 52 [(.int .i64 most)] ([] : Heap) ((AV.obj 0 0 0 0), (Vc_1 most)) :=
  specO (fn := Try.f52) (ann := new0_ann) (Has.o Try.func52) (.r (.g (.r (.y 1 (.int .i64 (if 32 < most then 32 else most)) (AV.int .i64 (min most 32)) (Yes.int (by split <;> omega)) (.y 2 (.int .i64 (if (min most 32) > 0 then (min most 32) else 0)) (AV.int .i64 (max 0 (min most 32))) (Yes.int (by split <;> omega)) (.g (.h' ([⟨0, 2, [[(AV.int .i64 (max 0 (min most 32))), (AV.sl .nil 0 [])]], none⟩] : Heap) (.f 1 (AV.obj 0 0 0 0) (.e (AV.obj 0 0 0 0))))))))))
theorem snew_spec (most : Int)  : ACalls Try.prog 52 [(.int .i64 most)] ([] : Heap) ((AV.obj 0 0 0 0), ([⟨0, 2, [[(.int .i64 (capM most)), (.osl 1 0 10 0 0)]], none⟩, ⟨0, 10, (List.map Entry.row []), none⟩] : Heap)) := (new0_spec most).virField
def rnew0_ann : Ann := { fin := some 1 }
set_option maxRecDepth 100000 in
theorem rnew0_spec (most : Int)  : ACalls Try.prog 79 [(.int .i64 most)] ([] : Heap) ((AV.obj 0 0 0 0), (Vc_1 most)) :=
  specO (fn := Try.f79) (ann := rnew0_ann) (Has.o Try.func79) (.r (.g (.r (.y 1 (.int .i64 (if 32 < most then 32 else most)) (AV.int .i64 (min most 32)) (Yes.int (by split <;> omega)) (.y 2 (.int .i64 (if 0 > (min most 32) then 0 else (min most 32))) (AV.int .i64 (max (min most 32) 0)) (Yes.int (by split <;> omega)) (.g (.h' ([⟨0, 2, [[(AV.int .i64 (max (min most 32) 0)), (AV.sl .nil 0 [])]], none⟩] : Heap) (.f 1 (AV.obj 0 0 0 0) (.e (AV.obj 0 0 0 0) (by
        try delta Vc_1
        simp [capM, Int.max_comm]))))))))))
theorem rnew_spec (most : Int)  : ACalls Try.prog 79 [(.int .i64 most)] ([] : Heap) ((AV.obj 0 0 0 0), ([⟨0, 2, [[(.int .i64 (capM most)), (.sl .any 10 (List.map Entry.row []))]], none⟩] : Heap)) := (rnew0_spec most).wkField ⟨rfl, rfl, .inr rfl⟩
def rfind_ann : Ann := { refs := [3], base := 1, fin := some 1, live := [(2, [0, 3, 6])], out := [(2, [0, 3, 6])] }
@[simp] abbrev Vc_o1 (v1_ : Int) (v2_ : List Entry) : Ob := ⟨0, 2, [[(AV.int .i64 v1_), (AV.sl .any 10 (List.map Entry.row v2_))]], none⟩
@[simp] abbrev Vc_2 (v1_ : Int) (v2_ : List Entry) : Heap := [Vc_o1 v1_ v2_]
@[simp] abbrev Vc_3 (v1_ : Key) (v2_ : Nat) : Fr := (mkF 50 [(0, (AV.obj 0 0 0 0)), (3, (AV.ref (Key.row v1_) 0)), (6, (AV.int .i64 ((v2_ : Nat) : Int)))])
set_option maxRecDepth 100000 in
theorem rfind_step (most : Int) (l : List Entry) (k : Key) (i : Nat) (hl : l.length < 1048576) (hi : i ≤ l.length) {eX : Ex} {FX : Fr} {HX : Heap} (k1 : (decide (((i : Nat) : Int) < ((l.length : Nat) : Int))) = true → (beforeK (nth l i).card.key k) = true → LoopTo (codeQ Try.prog (X rfind_ann) (loopOf Try.f134 0)) (some [0, 3, 6]) (some [0, 3, 6]) (mkF 50 [(0, (.obj 0 0 0 0)), (3, (.ref (Key.row k) 0)), (6, (.int .i64 ((i + 1 : Nat) : Int)))]) (Vc_2 most l) eX FX HX) (k2 : (decide (((i : Nat) : Int) < ((l.length : Nat) : Int))) = true → (beforeK (nth l i).card.key k) = false → ((.exit 0 : Ex), (Vc_3 k i), (Vc_2 most l)) = (eX, FX, HX)) (k3 : (decide (((i : Nat) : Int) < ((l.length : Nat) : Int))) = false → ((.exit 0 : Ex), (Vc_3 k i), (Vc_2 most l)) = (eX, FX, HX)) : LoopTo (codeQ Try.prog (X rfind_ann) (loopOf Try.f134 0)) (some [0, 3, 6]) (some [0, 3, 6]) (Vc_3 k i) (Vc_2 most l) eX FX HX :=
  stepO (.r (.y 5 (.int .i64 ((List.length (List.map Entry.row l) : Nat) : Int)) (AV.int .i64 ((l.length : Nat) : Int)) (Yes.len _ _ _) (.two (decide (((i : Nat) : Int) < ((l.length : Nat) : Int))) (fun h1 h1' => (.yes (.yes (.yes (.yes (.yes (.is 13 10 10 (List.map Entry.row l) ((i : Nat) : Int) (Entry.row (nth l i)) (IdxSl.mk _ ow ow) (.yes (.yes (.yes (.yes (.yes (.c 18 (before_at (nth l i).card.key k  (Vc_2 most l)) (.g (.two (beforeK (nth l i).card.key k) (fun h2 h2' => (.r (.y 1 (.int .i64 (IntKind.i64.wrap (((i : Nat) : Int) + 1))) (AV.int .i64 ((i + 1 : Nat) : Int)) (Yes.add ow ow ow) (.g (.l (k1 h1 h2)))))) (fun h2 h2' => (.l (k2 h1 h2)))))))))))))))))) (fun h1 h1' => (.no (.no (.no (.no (.no (.no (.no (.no (.no (.no (.g (.no (.l (k3 h1))))))))))))))))))
@[simp] abbrev Vc_4 (v1_ : Key) (v2_ : List Entry) : Fr := (mkF 50 [(0, (AV.obj 0 0 0 0)), (3, (AV.ref (Key.row v1_) 0)), (6, (AV.int .i64 (((findP v2_ v1_) : Nat) : Int)))])
theorem rfind_loop (most : Int) (l : List Entry) (k : Key) (hl : l.length < 1048576) (r : Nat) : ∀ (i : Nat), i + r = findP l k →
    LoopTo (codeQ Try.prog (X rfind_ann) (loopOf Try.f134 0)) (some [0, 3, 6]) (some [0, 3, 6]) (Vc_3 k i) (Vc_2 most l) (.exit 0) (Vc_4 k l) (Vc_2 most l) := by
  have hle := findP_le l k
  induction r with
  | zero =>
    intro i hi
    obtain rfl : i = findP l k := by omega
    refine rfind_step most l k (findP l k) hl ow (fun h1 h2 => ?_) (fun _ _ => rfl) (fun _ => rfl)
    rw [findP_at (by have := of_decide_eq_true h1; omega)] at h2; simp at h2
  | succ r ih =>
    intro i hi
    refine rfind_step most l k i hl ow (fun _ _ => ih (i + 1) ow) (fun _ h2 => ?_) (fun h1 => ?_)
    · rw [findP_lt (show i < findP l k by omega)] at h2; simp at h2
    · simp at h1; omega
set_option maxRecDepth 100000 in
theorem rfind_spec (most : Int) (l : List Entry) (k : Key) (hl : l.length < 1048576) : ACalls Try.prog 134 [(.obj 0 0 0 0), (.agg (Key.row k))] (Vc_2 most l) ((AV.tup [(.int .i64 (((findP l k) : Nat) : Int)), (.bool (findB l k))]), (Vc_2 most l)) := by
  have hle := findP_le l k
  exact specO (fn := Try.f134) (ann := rfind_ann) (Has.o Try.func134) (.r (.g (.r (.g (.loop (Vc_4 k l) (show LoopTo (codeQ Try.prog (X rfind_ann) (loopOf Try.f134 0)) (some [0, 3, 6]) (some [0, 3, 6]) (mkF 50 [(0, (.obj 0 0 0 0)), (3, (.ref (Key.row k) 0)), (6, (.int .i64 0))]) (Vc_2 most l) (.exit 0) (Vc_4 k l) (Vc_2 most l) from (rfind_loop most l k hl (findP l k) 0 ow)) (.r (.y 6 (.int .i64 ((List.length (List.map Entry.row l) : Nat) : Int)) (AV.int .i64 ((l.length : Nat) : Int)) (Yes.len _ _ _) (.two (decide ((((findP l k) : Nat) : Int) < ((l.length : Nat) : Int))) (fun h1 h1' => (.yes (.yes (.yes (.yes (.yes (.is 14 10 10 (List.map Entry.row l) (((findP l k) : Nat) : Int) (Entry.row (nth l (findP l k))) (IdxSl.mk _ ow ow) (.yes (.yes (.yes (.yes (.yes (.g (.f 1 (AV.tup [(.int .i64 (((findP l k) : Nat) : Int)), (.bool (Key.eqb (nth l (findP l k)).card.key k))]) (.e (AV.tup [(.int .i64 (((findP l k) : Nat) : Int)), (.bool (Key.eqb (nth l (findP l k)).card.key k))]) (by
        try delta Vc_2 Vc_o1
        have hb : findB l k = Key.eqb (nth l (findP l k)).card.key k := by unfold findB; first | (simp_all; done) | (simp_all; omega) | (simp_all; intro h; omega)
        rw [hb])))))))))))))))) (fun h1 h1' => (.no (.no (.no (.no (.no (.no (.no (.no (.no (.no (.g (.f 1 (AV.tup [(AV.int .i64 (((findP l k) : Nat) : Int)), (AV.bool false)]) (.e (AV.tup [(AV.int .i64 (((findP l k) : Nat) : Int)), (AV.bool false)]) (by
        try delta Vc_2 Vc_o1
        have hb : findB l k = false := by unfold findB; first | (simp_all; done) | (simp_all; omega) | (simp_all; intro h; omega)
        rw [hb])))))))))))))))))))))))
theorem rfind_at (most : Int) (l : List Entry) (k : Key) (hl : l.length < 1048576) (H : Heap) : ACalls Try.prog 134 [(.obj 0 0 0 0), (.agg (Key.row k))] ((Vc_2 most l) ++ H) ((AV.tup [(.int .i64 (((findP l k) : Nat) : Int)), (.bool (findB l k))]), (Vc_2 most l) ++ H) := (rfind_spec most l k hl).ext kr kr ob ob kr H
def rputIn0_ann : Ann := { refs := [3], own := [22, 50, 60], base := 1, fin := some 2 }
@[simp] abbrev Vc_5 (v1_ : Int) (v2_ : List Entry) (v3_ : Entry) : Heap := [⟨0, 2, [[(AV.int .i64 v1_), (AV.osl 1 0 10 0 v2_.length)]], none⟩, ⟨0, 10, (List.map Entry.row (v2_.set (findP v2_ v3_.card.key) v3_)), none⟩]
set_option maxRecDepth 100000 in
theorem rputIn0_spec (most : Int) (l : List Entry) (e : Entry) (hl : l.length < 1048576) (hb : findB l e.card.key = true) : ACalls Try.prog 82 [(.obj 0 0 0 0), (.agg (Entry.row e))] (Vc_2 most l) ((AV.int .i64 0), (Vc_5 most l e)) := by
  have hle := findP_le l e.card.key
  have hlt := findB_lt hb
  exact specO (fn := Try.f82) (ann := rputIn0_ann) (Has.o Try.func82) (.r (.g (.r (.c 4 (rfind_at most l e.card.key oa ([] : Heap)) (.g (.r (.y 0 (AV.bool (findB l e.card.key)) (AV.bool true) (Yes.bool (hb)) (.g (.yes (.r (.ao 6 110 (AV.sl .clip 10 []) (AV.sl .any 10 (List.map Entry.row l)) (AV.osl 1 0 10 0 l.length) ([⟨0, 2, [[(AV.int .i64 most), (AV.sl .any 10 (List.map Entry.row l))]], none⟩, ⟨0, 10, (List.map Entry.row l), none⟩] : Heap) (evAppendO_fresh (T := tt) (e := 119) (te := { d := .struct [(58, 0), (2, 9)], size := 10, bytes := 96, zero := [.str ⟨#[]⟩, .str ⟨#[]⟩, .int .i64 0, .int .i64 0, .int .i64 0, .int .i64 0, .int .i64 0, .int .i64 0, .bool false, .int .i64 0] }) (z := 1) (b := 24) (y := [.sl .nil 0 []]) (row := Entry.row) kr kr rfl (by decide) (by decide) (by simp) (by first | (simp [rowsIn, List.map_take, List.map_drop, List.take_of_length_le]; done) | simp [rowsIn, rU8, rI64, rStr, rBool]) rfl rfl rfl om) (.g (.r (.h' ([⟨0, 2, [[(AV.int .i64 most), (AV.osl 1 0 10 0 l.length)]], none⟩, ⟨0, 10, (List.map Entry.row l), none⟩] : Heap) (.io 6 1 0 10 10 0 l.length (((findP l e.card.key) : Nat) : Int) (findP l e.card.key) (IdxOsl.mk _ ow ow) (.st 7 1 0 (findP l e.card.key) 10 0 (AV.agg (Entry.row e)) (Vc_5 most l e) (store_row (us := (Entry.row e)) (rowAt_map (row := Entry.row) (l := l) (k := 10) (room := none) kr om) kr (by simp [Entry.row]) (by simp [setAt, fillAt, List.map_set, Entry.row])) (.g (.r (.g (.f 2 (AV.int .i64 0) (.e (AV.int .i64 0))))))))))))))))))))))
def rputFull_ann : Ann := { refs := [3], base := 1, fin := some 1 }
set_option maxRecDepth 100000 in
theorem rputFull_spec (most : Int) (l : List Entry) (e : Entry) (hl : l.length < 1048576) (hb : findB l e.card.key = false) (hm : most ≤ (l.length : Int)) : ACalls Try.prog 82 [(.obj 0 0 0 0), (.agg (Entry.row e))] (Vc_2 most l) ((AV.int .i64 24), (Vc_2 most l)) := by
  have hle := findP_le l e.card.key
  exact specO (fn := Try.f82) (ann := rputFull_ann) (Has.o Try.func82) (.r (.g (.r (.c 4 (rfind_at most l e.card.key oa ([] : Heap)) (.g (.r (.y 0 (AV.bool (findB l e.card.key)) (AV.bool false) (Yes.bool (hb)) (.g (.no (.r (.y 4 (.int .i64 ((List.length (List.map Entry.row l) : Nat) : Int)) (AV.int .i64 ((l.length : Nat) : Int)) (Yes.len _ _ _) (.y 9 (AV.bool (decide (((l.length : Nat) : Int) ≥ most))) (AV.bool true) (Yes.bool om) (.g (.yes (.r (.g (.f 1 (AV.int .i64 24) (.e (AV.int .i64 24)))))))))))))))))))
def rputNew0_ann : Ann := { refs := [3], own := [22, 50, 60], base := 1, fin := some 2 }
@[simp] abbrev Vc_6 (v1_ : Int) (v2_ : List Entry) (v3_ : Entry) : Heap := [Vc_o1 v1_ v2_, ⟨0, 10, (List.map Entry.row (v2_.take (findP v2_ v3_.card.key))), none⟩]
@[simp] abbrev Vc_7 (v1_ : Int) (v2_ : List Entry) (v3_ : Entry) : Heap := [Vc_o1 v1_ v2_, ⟨1, 10, (List.map Entry.row ((v2_.take (findP v2_ v3_.card.key)) ++ [v3_])), none⟩]
set_option maxRecDepth 100000 in
theorem rputNew0_spec (most : Int) (l : List Entry) (e : Entry) (hl : l.length < 1048576) (hb : findB l e.card.key = false) (hm : (l.length : Int) < most) : ACalls Try.prog 82 [(.obj 0 0 0 0), (.agg (Entry.row e))] (Vc_2 most l) ((AV.int .i64 0), ([⟨0, 2, [[(.int .i64 most), (.osl 1 2 10 0 ((List.length (l.take (findP l e.card.key))) + 1 + (List.length (l.drop (findP l e.card.key)))))]], none⟩, ⟨2, 10, (List.map Entry.row ((l.take (findP l e.card.key) ++ [e]) ++ l.drop (findP l e.card.key))), none⟩] : Heap)) := by
  have hle := findP_le l e.card.key
  exact specO (fn := Try.f82) (ann := rputNew0_ann) (Has.o Try.func82) (.r (.g (.r (.c 4 (rfind_at most l e.card.key oa ([] : Heap)) (.g (.r (.y 0 (AV.bool (findB l e.card.key)) (AV.bool false) (Yes.bool (hb)) (.g (.no (.r (.y 4 (.int .i64 ((List.length (List.map Entry.row l) : Nat) : Int)) (AV.int .i64 ((l.length : Nat) : Int)) (Yes.len _ _ _) (.y 9 (AV.bool (decide (((l.length : Nat) : Int) ≥ most))) (AV.bool false) (Yes.bool (by simp; omega)) (.g (.no (.r (.t 7 (AV.sl .any 10 (List.map Entry.row (l.take (findP l e.card.key)))) (Vc_2 most l) (slice_sl (l := 0) (h := (findP l e.card.key)) om om om om (by simp [List.map_take, List.map_drop, List.take_of_length_le]) : Option.map (fun a => (a, (Vc_2 most l))) (if 10 = 10 ∨ ((List.map Entry.row l)).isEmpty = true then (bounds 0 (((findP l e.card.key) : Nat) : Int) (List.length (List.map Entry.row l))).map fun p => AV.sl .any 10 ((List.take p.2 (List.map Entry.row l)).drop p.1) else none) = some ((AV.sl .any 10 (List.map Entry.row (l.take (findP l e.card.key)))), (Vc_2 most l))) (.ao 8 110 (AV.sl .clip 10 []) (AV.sl .any 10 (List.map Entry.row (l.take (findP l e.card.key)))) (AV.osl 1 0 10 0 (l.take (findP l e.card.key)).length) (Vc_6 most l e) (evAppendO_fresh (T := tt) (e := 119) (te := { d := .struct [(58, 0), (2, 9)], size := 10, bytes := 96, zero := [.str ⟨#[]⟩, .str ⟨#[]⟩, .int .i64 0, .int .i64 0, .int .i64 0, .int .i64 0, .int .i64 0, .int .i64 0, .bool false, .int .i64 0] }) (z := 1) (b := 24) (y := [.sl .nil 0 []]) (row := Entry.row) kr kr rfl (by decide) (by decide) (by simp) (by first | (simp [rowsIn, List.map_take, List.map_drop, List.take_of_length_le]; done) | simp [rowsIn, rU8, rI64, rStr, rBool]) rfl rfl rfl om) (.ap 11 110 (AV.osl 1 0 10 0 (l.take (findP l e.card.key)).length) (AV.sl .clip 10 [(Entry.row e)]) (AV.osl 1 1 10 0 ((l.take (findP l e.card.key)).length + 1)) (Vc_7 most l e) (evAppend_one (row := Entry.row) (l := l.take (findP l e.card.key)) (x := e) (T := tt) (e := 119) (te := { d := .struct [(58, 0), (2, 9)], size := 10, bytes := 96, zero := [.str ⟨#[]⟩, .str ⟨#[]⟩, .int .i64 0, .int .i64 0, .int .i64 0, .int .i64 0, .int .i64 0, .int .i64 0, .bool false, .int .i64 0] }) (z := 1) (b := 24) (y := [.sl .nil 0 []]) kr kr rfl (by decide) (by decide) kr (by first | assumption | omega | (simp; done) | (simp; omega)) rfl rfl (by first | omega | (show _ * 96 ≤ _; omega) | (simp; omega))) (.t 17 (AV.sl .any 10 (List.map Entry.row (l.drop (findP l e.card.key)))) (Vc_7 most l e) (slice_sl (l := (findP l e.card.key)) (h := (List.length l)) om om om om (by simp [List.map_take, List.map_drop, List.take_of_length_le]) : Option.map (fun a => (a, (Vc_7 most l e))) (if 10 = 10 ∨ ((List.map Entry.row l)).isEmpty = true then (bounds (((findP l e.card.key) : Nat) : Int) ((List.length (List.map Entry.row l) : Nat) : Int) (List.length (List.map Entry.row l))).map fun p => AV.sl .any 10 ((List.take p.2 (List.map Entry.row l)).drop p.1) else none) = some ((AV.sl .any 10 (List.map Entry.row (l.drop (findP l e.card.key)))), (Vc_7 most l e))) (.ao 18 110 (AV.osl 1 1 10 0 ((l.take (findP l e.card.key)).length + 1)) (AV.sl .any 10 (List.map Entry.row (l.drop (findP l e.card.key)))) (AV.osl 1 2 10 0 (((l.take (findP l e.card.key)).length + 1) + (l.drop (findP l e.card.key)).length)) ([⟨0, 2, [[(AV.int .i64 most), (AV.sl .any 10 (List.map Entry.row l))]], none⟩, ⟨2, 10, (List.map Entry.row (((l.take (findP l e.card.key)) ++ [e]) ++ (l.drop (findP l e.card.key)))), none⟩] : Heap) (evAppendO_end (T := tt) (e := 119) (te := { d := .struct [(58, 0), (2, 9)], size := 10, bytes := 96, zero := [.str ⟨#[]⟩, .str ⟨#[]⟩, .int .i64 0, .int .i64 0, .int .i64 0, .int .i64 0, .int .i64 0, .int .i64 0, .bool false, .int .i64 0] }) (z := 1) (b := 24) (y := [.sl .nil 0 []]) (row := Entry.row) (l := (l.take (findP l e.card.key)) ++ [e]) kr kr rfl (by decide) (by decide) kr (by first | (simp [rowsIn, List.map_take, List.map_drop, List.take_of_length_le]; done) | simp [rowsIn, rU8, rI64, rStr, rBool]) om rfl rfl (by first | omega | (show _ * 96 ≤ _; omega) | (simp; done) | (simp; omega))) (.rd (AV.sl .any 10 (List.map Entry.row l)) (Vc_2 most l) (.rd (AV.sl .any 10 (List.map Entry.row l)) (Vc_6 most l e) (.g (.r (.g (.h' ([⟨0, 2, [[(AV.int .i64 most), (AV.osl 1 2 10 0 (((l.take (findP l e.card.key)).length + 1) + (l.drop (findP l e.card.key)).length))]], none⟩, ⟨2, 10, (List.map Entry.row (((l.take (findP l e.card.key)) ++ [e]) ++ (l.drop (findP l e.card.key)))), none⟩] : Heap) (.f 2 (AV.int .i64 0) (.e (AV.int .i64 0)))))))))))))))))))))))))))))
theorem rput_spec (most : Int) (l : List Entry) (e : Entry) (hl : l.length < 1048576) : ACalls Try.prog 82 [(.obj 0 0 0 0), (.agg (Entry.row e))] ([⟨0, 2, [[(.int .i64 most), (.sl .any 10 (List.map Entry.row l))]], none⟩] : Heap) ((AV.int .i64 (putE most l e)), ([⟨0, 2, [[(.int .i64 most), (.sl .any 10 (List.map Entry.row (putL most l e)))]], none⟩] : Heap)) := by
  have hle := findP_le l e.card.key
  cases hb : findB l e.card.key with
  | true =>
    have h1 : putE most l e = 0 := by simp [putE, hb]
    have h2 : putL most l e = l.set (findP l e.card.key) e := by simp [putL, hb]
    rw [h1, h2]
    exact (rputIn0_spec most l e hl hb).frzField rfl rfl (by simp) (Entry.rows_bdd 0 _) rfl rfl rfl
  | false =>
    by_cases hm : most ≤ (l.length : Int)
    · have h1 : putE most l e = 24 := by simp [putE, hb, hm]
      have h2 : putL most l e = l := by simp [putL, hb, hm]
      rw [h1, h2]
      exact rputFull_spec most l e hl hb hm
    · have h1 : putE most l e = 0 := by simp [putE, hb, hm]
      have h2 : putL most l e = l.take (findP l e.card.key) ++ e :: l.drop (findP l e.card.key) := by simp [putL, hb, hm]
      rw [h1, h2]
      exact (rputNew0_spec most l e hl hb ow).frzField rfl rfl (by simp; omega) (Entry.rows_bdd 0 _) rfl rfl (by simp)
theorem rput_at (most : Int) (l : List Entry) (e : Entry) (hl : l.length < 1048576) (H : Heap) : ACalls Try.prog 82 [(.obj 0 0 0 0), (.agg (Entry.row e))] ((Vc_2 most l) ++ H) ((AV.int .i64 (putE most l e)), ([⟨0, 2, [[(.int .i64 most), (.sl .any 10 (List.map Entry.row (putL most l e)))]], none⟩] : Heap) ++ H) := (rput_spec most l e hl).ext kr kr ob ob kr H
def rgetIn_ann : Ann := { refs := [3], base := 1, fin := some 1 }
@[simp] abbrev Vc_o2  : Ob := ⟨0, 10, [[(AV.str ⟨#[]⟩), (AV.str ⟨#[]⟩), (AV.int .i64 0), (AV.int .i64 0), (AV.int .i64 0), (AV.int .i64 0), (AV.int .i64 0), (AV.int .i64 0), (AV.bool false), (AV.int .i64 0)]], none⟩
@[simp] abbrev Vc_9  : Heap := [Vc_o2]
@[simp] abbrev Vc_10 (v1_ : Int) (v2_ : List Entry) : Heap := [Vc_o1 v1_ v2_, Vc_o2]
set_option maxRecDepth 100000 in
theorem rgetIn_spec (most : Int) (l : List Entry) (k : Key) (hl : l.length < 1048576) (hb : findB l k = true) : ACalls Try.prog 119 [(.obj 0 0 0 0), (.agg (Key.row k))] (Vc_2 most l) ((AV.tup [(.agg (Entry.row (nth l (findP l k)))), (.bool true)]), (Vc_2 most l)) := by
  have hle := findP_le l k
  have hlt := findB_lt hb
  exact specO (fn := Try.f119) (ann := rgetIn_ann) (Has.o Try.func119) (.r (.g (.r (.c 2 (rfind_at most l k oa Vc_9) (.g (.r (.h' (Vc_10 most l) (.y 1 (AV.bool (!(findB l k))) (AV.bool false) (Yes.bool (by rw [hb]; rfl)) (.g (.no (.r (.is 5 10 10 (List.map Entry.row l) (((findP l k) : Nat) : Int) (Entry.row (nth l (findP l k))) (IdxSl.mk _ ow ow) (.g (.h' (Vc_2 most l) (.f 1 (AV.tup [(AV.agg (Entry.row (nth l (findP l k)))), (AV.bool true)]) (.e (AV.tup [(AV.agg (Entry.row (nth l (findP l k)))), (AV.bool true)])))))))))))))))))
def rgetOut_ann : Ann := { refs := [3], base := 1, fin := some 1 }
set_option maxRecDepth 100000 in
theorem rgetOut_spec (most : Int) (l : List Entry) (k : Key) (hl : l.length < 1048576) (hb : findB l k = false) : ACalls Try.prog 119 [(.obj 0 0 0 0), (.agg (Key.row k))] (Vc_2 most l) ((AV.tup [(.agg (Entry.row zE)), (.bool false)]), (Vc_2 most l)) := by
  have hle := findP_le l k
  exact specO (fn := Try.f119) (ann := rgetOut_ann) (Has.o Try.func119) (.r (.g (.r (.c 2 (rfind_at most l k oa Vc_9) (.g (.r (.h' (Vc_10 most l) (.y 1 (AV.bool (!(findB l k))) (AV.bool true) (Yes.bool (by rw [hb]; rfl)) (.g (.yes (.r (.g (.h' (Vc_2 most l) (.f 1 (AV.tup [(AV.agg [(AV.str ⟨#[]⟩), (AV.str ⟨#[]⟩), (AV.int .i64 0), (AV.int .i64 0), (AV.int .i64 0), (AV.int .i64 0), (AV.int .i64 0), (AV.int .i64 0), (AV.bool false), (AV.int .i64 0)]), (AV.bool false)]) (.e (AV.tup [(AV.agg [(AV.str ⟨#[]⟩), (AV.str ⟨#[]⟩), (AV.int .i64 0), (AV.int .i64 0), (AV.int .i64 0), (AV.int .i64 0), (AV.int .i64 0), (AV.int .i64 0), (AV.bool false), (AV.int .i64 0)]), (AV.bool false)]))))))))))))))))
theorem rget_spec (most : Int) (l : List Entry) (k : Key) (hl : l.length < 1048576) : ACalls Try.prog 119 [(.obj 0 0 0 0), (.agg (Key.row k))] ([⟨0, 2, [[(.int .i64 most), (.sl .any 10 (List.map Entry.row l))]], none⟩] : Heap) ((AV.tup [(.agg (Entry.row (getE l k))), (.bool (findB l k))]), ([⟨0, 2, [[(.int .i64 most), (.sl .any 10 (List.map Entry.row l))]], none⟩] : Heap)) := by
  cases hb : findB l k with
  | true =>
    have h2 : getE l k = nth l (findP l k) := by simp [getE, hb]
    rw [h2]
    exact rgetIn_spec most l k hl hb
  | false =>
    have h2 : getE l k = zE := by simp [getE, hb]
    rw [h2]
    exact rgetOut_spec most l k hl hb
theorem rget_at (most : Int) (l : List Entry) (k : Key) (hl : l.length < 1048576) (H : Heap) : ACalls Try.prog 119 [(.obj 0 0 0 0), (.agg (Key.row k))] ((Vc_2 most l) ++ H) ((AV.tup [(.agg (Entry.row (getE l k))), (.bool (findB l k))]), (Vc_2 most l) ++ H) := (rget_spec most l k hl).ext kr kr ob ob kr H
end Go.Proofs.Ytcmfnfkahdconaa.AM

set_option maxRecDepth 100000
set_option linter.unusedVariables false
set_option linter.unusedSimpArgs false
namespace Go.Proofs.Ytcmfnfkahdconaa.AM
open Go Go.Proofs.Ytcmfnfkahdconaa
attribute [local irreducible] ACalls funT codeT codeQ LoopTo
attribute [local irreducible] recL
def cloneKN_ann : Ann := { gha := [(2, .vir 2 2)], fin := some 1 }
set_option maxRecDepth 100000 in
theorem cloneKN_spec   : ACalls Try.prog 89 [(.sl .nil 0 [])] ([] : Heap) ((AV.osl 0 0 2 0 0), ([⟨0, 2, (List.map Key.row []), none⟩] : Heap)) :=
  specO (fn := Try.f89) (ann := cloneKN_ann) (Has.o Try.func89) (.r (.g (.r (.g (.yes (.r (.g (.h' ([⟨0, 2, (List.map Key.row []), none⟩] : Heap) (.f 1 (AV.osl 0 0 2 0 0) (.e (AV.osl 0 0 2 0 0)))))))))))
def cloneKO_ann : Ann := { own := [7], fin := some 1 }
set_option maxRecDepth 100000 in
theorem cloneKO_spec (l : List Key) (hl : l.length < 1099511627776) : ACalls Try.prog 89 [(.sl .op 2 (List.map Key.row l))] ([] : Heap) ((AV.osl 0 0 2 0 l.length), ([⟨0, 2, (List.map Key.row l), none⟩] : Heap)) :=
  specO (fn := Try.f89) (ann := cloneKO_ann) (Has.o Try.func89) (.r (.g (.r (.g (.no (.r (.ao 2 34 (AV.sl .clip 2 []) (AV.sl .op 2 (List.map Key.row l)) (AV.osl 0 0 2 0 l.length) ([⟨0, 2, (List.map Key.row l), none⟩] : Heap) (evAppendO_fresh (T := tt) (e := 31) (te := { d := .struct [(9, 0), (9, 1)], size := 2, bytes := 32, zero := [.str ⟨#[]⟩, .str ⟨#[]⟩] }) (z := 1) (b := 24) (y := [.sl .nil 0 []]) (row := Key.row) kr kr rfl (by decide) (by decide) (by simp) (by first | (simp [rowsIn, List.map_take, List.map_drop, List.take_of_length_le]; done) | simp [rowsIn, rU8, rI64, rStr, rBool]) rfl rfl rfl om) (.g (.f 1 (AV.osl 0 0 2 0 l.length) (.e (AV.osl 0 0 2 0 l.length)))))))))))
theorem cloneK_spec (l : List Key) (hl : l.length < 1099511627776) : ACalls Try.prog 89 [(.sl .any 2 (List.map Key.row l))] ([] : Heap) ((AV.osl 0 0 2 0 l.length), ([⟨0, 2, (List.map Key.row l), none⟩] : Heap)) := ACalls.orNil (fun h => by
    have h2 : l = [] := by simpa using h
    subst h2; exact cloneKN_spec) (cloneKO_spec l hl)
theorem cloneKS_spec (l : List Key) (g e n : Nat) (hn : e + n = l.length) (hl : l.length < 1099511627776) : ACalls Try.prog 89 [(.osl 0 g 2 e n)] ([⟨g, 2, (List.map Key.row l), none⟩] : Heap) ((AV.osl 0 (g + 1) 2 0 n), ([⟨(g + 1), 2, (List.map Key.row (l.drop e)), none⟩] : Heap)) := by
  have h := cloneK_spec (l.drop e) (by rw [List.length_drop]; omega)
  have e1 : (l.drop e).length = n := by rw [List.length_drop]; omega
  rw [e1] at h
  have e2 : ((l.map Key.row).drop e).take n = (l.drop e).map Key.row := by rw [List.map_drop]; exact List.take_of_length_le (by rw [List.length_drop, List.length_map]; omega)
  exact ACalls.reclone h (scalss_map (fun x => rfl) _) (Key.rows_bdd _ _) ⟨.osl (by simp [rowsIn, hn, e2]) (Key.rows_bdd _ _), trivial⟩
def seq_ann : Ann := { base := 2, fin := some 2 }
@[simp] abbrev Wa_1 (v1_ : List Key) (v2_ : Nat) : Heap := [⟨0, 2, [[(AV.int .i64 (((List.length v1_) : Nat) : Int)), (AV.osl 1 v2_ 2 0 (List.length (recL v1_)))]], none⟩, ⟨v2_, 2, (List.map Key.row (recL v1_)), none⟩]
set_option maxRecDepth 100000 in
theorem seq_spec (al : List Key) (g : Nat)  : ACalls Try.prog 36 [(.obj 0 0 0 0)] (Wa_1 al g) ((AV.int .i64 ((al.length : Nat) : Int)), (Wa_1 al g)) :=
  specO (fn := Try.f36) (ann := seq_ann) (Has.o Try.func36) (.r (.g (.r (.g (.f 2 (AV.int .i64 (((List.length al) : Nat) : Int)) (.e (AV.int .i64 (((List.length al) : Nat) : Int))))))))
def radd_ann : Ann := { refs := [3], own := [19], base := 2, fin := some 2 }
@[simp] abbrev Wa_2 (v1_ : List Key) (v2_ : Key) (v3_ : Nat) : Heap := [⟨0, 2, [[(AV.int .i64 (((List.length (v1_ ++ [v2_])) : Nat) : Int)), (AV.osl 1 (v3_ + 1 + 1) 2 0 (List.length (recL (v1_ ++ [v2_]))))]], none⟩, ⟨(v3_ + 1 + 1), 2, (List.map Key.row (recL (v1_ ++ [v2_]))), none⟩]
@[simp] abbrev Wa_o1 (v1_ : List Key) (v2_ : Nat) : Ob := ⟨0, 2, [[(AV.int .i64 (((List.length v1_) + 1 : Nat) : Int)), (AV.osl 1 (v2_ + 1) 2 0 ((List.length (recL v1_)) + 1))]], none⟩
@[simp] abbrev Wa_3 (v1_ : List Key) (v2_ : Nat) (v3_ : Key) : Heap := [Wa_o1 v1_ v2_, ⟨(v2_ + 1), 2, (List.map Key.row ((recL v1_) ++ [v3_])), none⟩]
@[simp] abbrev Wa_4 (v1_ : List Key) (v2_ : Nat) (v3_ : Key) : Heap := [Wa_o1 v1_ v2_, ⟨((v2_ + 1) + 1), 2, (List.map Key.row (((recL v1_) ++ [v3_]).drop (((List.length (recL v1_)) + 1) - 16))), none⟩]
set_option maxRecDepth 100000 in
theorem radd_spec (al : List Key) (k : Key) (g : Nat) (ha : al.length < 1000000) : ACalls Try.prog 46 [(.obj 0 0 0 0), (.agg (Key.row k))] (Wa_1 al g) ((AV.int .i64 (((al ++ [k]).length : Nat) : Int)), (Wa_2 al k g)) := by
  have hr := recL_len al
  have h1 := recL_add al k
  have h2 : (recL al).length + 1 - ((recL al).length + 1 - 16) = (recL (al ++ [k])).length := by rw [← h1]; simp
  exact specO (fn := Try.f46) (ann := radd_ann) (Has.o Try.func46) (.r (.g (.r (.y 4 (.int .i64 (IntKind.i64.wrap ((((List.length al) : Nat) : Int) + 1))) (AV.int .i64 (((List.length al) + 1 : Nat) : Int)) (Yes.add ow ow ow) (.g (.r (.h' ([⟨0, 2, [[(AV.int .i64 (((List.length al) + 1 : Nat) : Int)), (AV.osl 1 g 2 0 (List.length (recL al)))]], none⟩, ⟨g, 2, (List.map Key.row (recL al)), none⟩] : Heap) (.ao 7 34 (AV.osl 1 g 2 0 (List.length (recL al))) (AV.sl .clip 2 [(Key.row k)]) (AV.osl 1 (g + 1) 2 0 ((List.length (recL al)) + 1)) ([⟨0, 2, [[(AV.int .i64 (((List.length al) + 1 : Nat) : Int)), (AV.osl 1 g 2 0 (List.length (recL al)))]], none⟩, ⟨(g + 1), 2, (List.map Key.row ((recL al) ++ [k])), none⟩] : Heap) (evAppendO_end (T := tt) (e := 31) (te := { d := .struct [(9, 0), (9, 1)], size := 2, bytes := 32, zero := [.str ⟨#[]⟩, .str ⟨#[]⟩] }) (z := 1) (b := 24) (y := [.sl .nil 0 []]) (row := Key.row) (l := (recL al)) kr kr rfl (by decide) (by decide) kr (by first | (simp [rowsIn, List.map_take, List.map_drop, List.take_of_length_le]; done) | simp [rowsIn, rU8, rI64, rStr, rBool]) om rfl rfl (by first | omega | (show _ * 32 ≤ _; omega) | (simp; done) | (simp; omega))) (.g (.r (.h' (Wa_3 al g k) (.y 10 (.int .i64 (IntKind.i64.wrap (((((List.length (recL al)) + 1) : Nat) : Int) - 16))) (AV.int .i64 (((((List.length (recL al)) + 1) : Nat) : Int) - 16)) (Yes.add ow ow rfl) (.y 11 (.int .i64 (if ((((List.length (recL al)) + 1) : Nat) : Int) - 16 > 0 then ((((List.length (recL al)) + 1) : Nat) : Int) - 16 else 0)) (AV.int .i64 (((((List.length (recL al)) + 1) - 16) : Nat) : Int)) (Yes.int (by split <;> omega)) (.so 12 1 (g + 1) 2 0 ((List.length (recL al)) + 1) (((((List.length (recL al)) + 1) - 16) : Nat) : Int) ((((List.length (recL al)) + 1) : Nat) : Int) (AV.osl 1 (g + 1) 2 (((List.length (recL al)) + 1) - 16) (((List.length (recL al)) + 1) - (((List.length (recL al)) + 1) - 16))) (slice_osl (l := (((List.length (recL al)) + 1) - 16)) (h := ((List.length (recL al)) + 1)) om om om om om om) (.ch 13 (Wa_4 al g k) (ACalls.pre (args' := [(AV.osl 1 (g + 1) 2 (((List.length (recL al)) + 1) - 16) (((List.length (recL al)) + 1) - (((List.length (recL al)) + 1) - 16)))]) (ACalls.put2 [1] (Wa_3 al g k) (AV.osl 1 ((g + 1) + 1) 2 0 (((List.length (recL al)) + 1) - (((List.length (recL al)) + 1) - 16))) (Wa_4 al g k) (cloneKS_spec ((recL al) ++ [k]) (g + 1) (((List.length (recL al)) + 1) - 16) (((List.length (recL al)) + 1) - (((List.length (recL al)) + 1) - 16)) oa oa) (⟨Ob.ren0 (Key.rows_bdd 0 _), trivial⟩) (⟨Ob.ren0 (Key.rows_bdd 0 _), trivial⟩)) ⟨AV.wk_refl_any _, trivial⟩) (.g (.r (.g (.h' ([⟨0, 2, [[(AV.int .i64 (((List.length al) + 1 : Nat) : Int)), (AV.osl 1 ((g + 1) + 1) 2 0 (((List.length (recL al)) + 1) - (((List.length (recL al)) + 1) - 16)))]], none⟩, ⟨((g + 1) + 1), 2, (List.map Key.row (((recL al) ++ [k]).drop (((List.length (recL al)) + 1) - 16))), none⟩] : Heap) (.f 2 (AV.int .i64 (((List.length al) + 1 : Nat) : Int)) (.e (AV.int .i64 (((List.length al) + 1 : Nat) : Int)) (by
        try delta Wa_1 Wa_2
        rw [h2, h1, List.length_append]; rfl))))))))))))))))))))))
def xadd_ann : Ann := { refs := [3], own := [11, 14], gha := [(1, .frzf 0 0 2)], base := 1, fin := some 1 }
@[simp] abbrev Wa_5 (v1_ : List Key) (v2_ : Key) : Heap := [⟨0, 1, [[(AV.sl .any 2 (List.map Key.row (v1_ ++ [v2_])))]], none⟩]
set_option maxRecDepth 100000 in
theorem xadd_spec (al : List Key) (k : Key) (ha : al.length < 1000000) : ACalls Try.prog 83 [(.obj 0 0 0 0), (.agg (Key.row k))] ([⟨0, 1, [[(.sl .any 2 (List.map Key.row al))]], none⟩] : Heap) ((AV.int .i64 (((al ++ [k]).length : Nat) : Int)), (Wa_5 al k)) :=
  specO (fn := Try.f83) (ann := xadd_ann) (Has.o Try.func83) (.r (.g (.r (.ao 6 34 (AV.sl .clip 2 []) (AV.sl .any 2 (List.map Key.row al)) (AV.osl 1 0 2 0 al.length) ([⟨0, 1, [[(AV.sl .any 2 (List.map Key.row al))]], none⟩, ⟨0, 2, (List.map Key.row al), none⟩] : Heap) (evAppendO_fresh (T := tt) (e := 31) (te := { d := .struct [(9, 0), (9, 1)], size := 2, bytes := 32, zero := [.str ⟨#[]⟩, .str ⟨#[]⟩] }) (z := 1) (b := 24) (y := [.sl .nil 0 []]) (row := Key.row) kr kr rfl (by decide) (by decide) (by simp) (by first | (simp [rowsIn, List.map_take, List.map_drop, List.take_of_length_le]; done) | simp [rowsIn, rU8, rI64, rStr, rBool]) rfl rfl rfl om) (.ao 9 34 (AV.osl 1 0 2 0 al.length) (AV.sl .clip 2 [(Key.row k)]) (AV.osl 1 1 2 0 (al.length + 1)) ([⟨0, 1, [[(AV.sl .any 2 (List.map Key.row al))]], none⟩, ⟨1, 2, (List.map Key.row (al ++ [k])), none⟩] : Heap) (evAppendO_end (T := tt) (e := 31) (te := { d := .struct [(9, 0), (9, 1)], size := 2, bytes := 32, zero := [.str ⟨#[]⟩, .str ⟨#[]⟩] }) (z := 1) (b := 24) (y := [.sl .nil 0 []]) (row := Key.row) (l := al) kr kr rfl (by decide) (by decide) kr (by first | (simp [rowsIn, List.map_take, List.map_drop, List.take_of_length_le]; done) | simp [rowsIn, rU8, rI64, rStr, rBool]) om rfl rfl (by first | omega | (show _ * 32 ≤ _; omega) | (simp; done) | (simp; omega))) (.w' 0 (List.map Key.row (al ++ [k])) (And.intro rfl (And.intro (rowsIn_all (room := none) kr om) (Key.rows_bdd _ _)) : 0 = 0 ∧ rowsIn ([⟨0, 1, [[(AV.osl 1 1 2 0 (al.length + 1))]], none⟩, ⟨1, 2, (List.map Key.row (al ++ [k])), none⟩] : Heap) 2 (AV.osl 1 1 2 0 (al.length + 1)) = some (List.map Key.row (al ++ [k])) ∧ AV.bddss 0 (List.map Key.row (al ++ [k])) = true) (.g (.r (.h' ([⟨0, 1, [[(AV.sl .any 2 (List.map Key.row (al ++ [k])))]], none⟩, ⟨2, 2, [], none⟩] : Heap) (.y 4 (.int .i64 ((List.length (List.map Key.row (al ++ [k])) : Nat) : Int)) (AV.int .i64 (((al ++ [k]).length : Nat) : Int)) (Yes.len _ _ _) (.g (.h' (Wa_5 al k) (.f 1 (AV.int .i64 (((al ++ [k]).length : Nat) : Int)) (.e (AV.int .i64 (((al ++ [k]).length : Nat) : Int)) (by
        try delta Wa_5
        simp)))))))))))))))
end Go.Proofs.Ytcmfnfkahdconaa.AM

set_option maxRecDepth 100000
set_option linter.unusedVariables false
set_option linter.unusedSimpArgs false
namespace Go.Proofs.Ytcmfnfkahdconaa.AM
open Go Go.Proofs.Ytcmfnfkahdconaa
attribute [local irreducible] ACalls funT codeT codeQ LoopTo
attribute [local irreducible] recL
end Go.Proofs.Ytcmfnfkahdconaa.AM

set_option maxRecDepth 100000
set_option linter.unusedVariables false
set_option linter.unusedSimpArgs false
namespace Go.Proofs.Ytcmfnfkahdconaa.AM
open Go Go.Proofs.Ytcmfnfkahdconaa
attribute [local irreducible] ACalls funT codeT codeQ LoopTo
attribute [local irreducible] Tp.card Tp.cardT Tp.next Tp.step Tp.cards Tp.cardsT Tp.key Tp.keyT sink insSort sortK insK posK beforeK sortP cmpK
end Go.Proofs.Ytcmfnfkahdconaa.AM

set_option linter.unusedVariables false
set_option linter.unusedSimpArgs false
set_option maxRecDepth 100000
set_option linter.unusedSectionVars false
namespace Go.Proofs.Ytcmfnfkahdconaa.AM
open Go
section
variable {α : Type} [Inhabited α]
def posG (lt : α → α → Bool) (x : α) (out : List α) : Nat → Nat
  | 0 => 0
  | k + 1 => if lt x (nth out k) = true then posG lt x out k else k + 1
def insG (lt : α → α → Bool) (out : List α) (x : α) : List α := (out.take (posG lt x out out.length) ++ [x]) ++ out.drop (posG lt x out out.length)
theorem posG_le (lt : α → α → Bool) (x : α) (out : List α) (k : Nat) : posG lt x out k ≤ k := by
  induction k with
  | zero => simp only [posG]; omega
  | succ k ih => simp only [posG]; split <;> omega
theorem posG_congr (lt : α → α → Bool) (x : α) {out out' : List α} (k : Nat) (h : ∀ i, i < k → nth out i = nth out' i) : posG lt x out k = posG lt x out' k := by
  induction k with
  | zero => rfl
  | succ k ih => simp only [posG]; rw [h k (by omega), ih fun i hi => h i (by omega)]
theorem posG_spec (lt : α → α → Bool) (x : α) (out : List α) (k : Nat) : (∀ i, posG lt x out k ≤ i → i < k → lt x (nth out i) = true) ∧ (0 < posG lt x out k → lt x (nth out (posG lt x out k - 1)) = false) := by
  induction k with
  | zero => simp only [posG]; exact ⟨fun i h1 h2 => by omega, fun h => by omega⟩
  | succ k ih =>
    simp only [posG]
    split
    · rename_i h
      refine ⟨fun i h1 h2 => ?_, ih.2⟩
      rcases Nat.lt_or_ge i k with h3 | h3
      · exact ih.1 i h1 h3
      · rw [show i = k by omega]; exact h
    · rename_i h
      exact ⟨fun i h1 h2 => by omega, fun _ => by simpa using h⟩
theorem insG_perm (lt : α → α → Bool) (out : List α) (x : α) : List.Perm (insG lt out x) (x :: out) := by
  unfold insG
  rw [List.append_assoc, List.singleton_append]
  refine List.perm_middle.trans ?_
  rw [List.take_append_drop]
theorem insG_len (lt : α → α → Bool) (out : List α) (x : α) : (insG lt out x).length = out.length + 1 := by
  rw [(insG_perm lt out x).length_eq]; rfl
structure Weak (lt : α → α → Bool) : Prop where
  asymm : ∀ a b, lt a b = true → lt b a = false
  trans : ∀ a b c, lt b a = false → lt c b = false → lt c a = false
abbrev Srt (lt : α → α → Bool) (l : List α) : Prop := List.Pairwise (fun a b => lt b a = false) l
theorem insG_sorted {lt : α → α → Bool} (W : Weak lt) {out : List α} (h : Srt lt out) (x : α) : Srt lt (insG lt out x) := by
  obtain ⟨h1, h2⟩ := posG_spec lt x out out.length
  have hp := posG_le lt x out out.length
  generalize hpe : posG lt x out out.length = p at *
  have hs := pw_nth.1 h
  unfold insG
  rw [hpe, List.append_assoc, List.singleton_append]
  refine List.pairwise_append.2 ⟨h.sublist (List.take_sublist _ _), List.pairwise_cons.2 ⟨fun y hy => ?_, h.sublist (List.drop_sublist _ _)⟩, fun a ha y hy => ?_⟩
  · obtain ⟨i, hi, rfl⟩ := mem_nth hy
    simp only [List.length_drop] at hi
    rw [nth_drop]
    exact W.asymm _ _ (h1 (p + i) (by omega) (by omega))
  · have hxp : lt x a = false := by
      obtain ⟨i, hi, rfl⟩ := mem_nth ha
      simp only [List.length_take] at hi
      rw [nth_take (by omega)]
      have h3 := h2 (by omega)
      rcases Nat.lt_or_ge i (p - 1) with h4 | h4
      · exact W.trans _ _ _ (hs i (p - 1) h4 (by omega)) h3
      · rw [show i = p - 1 by omega]; exact h3
    rcases List.mem_cons.1 hy with rfl | hy
    · exact hxp
    · obtain ⟨i, hi, rfl⟩ := mem_nth ha
      obtain ⟨j, hj, rfl⟩ := mem_nth hy
      simp only [List.length_take] at hi
      simp only [List.length_drop] at hj
      rw [nth_take (by omega), nth_drop]
      exact hs i (p + j) (by omega) (by omega)
def sortG (lt : α → α → Bool) (l : List α) : List α := l.foldl (insG lt) []
theorem foldG (lt : α → α → Bool) (l : List α) : ∀ (out : List α), List.Perm (l.foldl (insG lt) out) (out ++ l) := by
  induction l with
  | nil => intro out; simp
  | cons x l ih =>
    intro out
    exact (ih (insG lt out x)).trans (((insG_perm lt out x).append_right l).trans (by simpa using List.perm_middle.symm))
theorem foldG_sorted {lt : α → α → Bool} (W : Weak lt) (l : List α) : ∀ (out : List α), Srt lt out → Srt lt (l.foldl (insG lt) out) := by
  induction l with
  | nil => intro out h; exact h
  | cons x l ih => intro out h; exact ih _ (insG_sorted W h x)
theorem sortG_perm (lt : α → α → Bool) (l : List α) : List.Perm (sortG lt l) l := foldG lt l []
theorem sortG_sorted {lt : α → α → Bool} (W : Weak lt) (l : List α) : Srt lt (sortG lt l) := foldG_sorted W l [] List.Pairwise.nil
theorem sink_ins (cmp : α → α → Int) (j : Nat) : ∀ (l : List α), j < l.length → sink cmp 0 j l = insG (fun a b => decide (cmp a b < 0)) (l.take j) (nth l j) ++ l.drop (j + 1) := by
  induction j with
  | zero =>
    intro l h
    simp only [sink]
    have hd : l = nth l 0 :: l.drop 1 := by
      have := drop_nth (l := l) (i := 0) h
      simpa using this
    conv => lhs; rw [hd]
    simp [insG, posG]
  | succ j ih =>
    intro l h
    simp only [sink]
    have h0 : decide (((j + 1 : Nat) : Int) > ((0 : Nat) : Int)) = true := decide_eq_true (by omega)
    rw [if_pos h0]
    have htk : l.take (j + 1) = l.take j ++ [nth l j] := by
      rw [List.take_add_one]
      congr 1
      rw [nth_get (by omega)]
      rfl
    have hdj : l.drop (j + 1) = nth l (j + 1) :: l.drop (j + 2) := drop_nth h
    have hlen : (l.take j).length = j := by simp; omega
    by_cases hc : decide (cmp (nth l (j + 1)) (nth l j) < 0) = true
    · rw [if_pos hc]
      rw [ih _ (by simp; omega)]
      have e1 : ((l.set (j + 1) (nth l j)).set j (nth l (j + 1))).take j = l.take j := by
        rw [List.take_set_of_le (by omega), List.take_set_of_le (by omega)]
      have e2 : nth ((l.set (j + 1) (nth l j)).set j (nth l (j + 1))) j = nth l (j + 1) := by
        unfold nth
        rw [List.getD_eq_getElem?_getD, List.getElem?_set_self (by simp; omega)]; rfl
      have e3 : ((l.set (j + 1) (nth l j)).set j (nth l (j + 1))).drop (j + 1) = nth l j :: l.drop (j + 2) := by
        rw [List.drop_set_of_lt (by omega), drop_nth (by simp; omega)]
        congr 1
        · unfold nth
          rw [List.getD_eq_getElem?_getD, List.getElem?_set_self (by omega)]; rfl
        · rw [List.drop_set_of_lt (by omega)]
      rw [e1, e2, e3]
      have hpos : posG (fun a b => decide (cmp a b < 0)) (nth l (j + 1)) (l.take (j + 1)) (l.take (j + 1)).length = posG (fun a b => decide (cmp a b < 0)) (nth l (j + 1)) (l.take j) j := by
        rw [show (l.take (j + 1)).length = j + 1 by rw [List.length_take]; omega]
        simp only [posG]
        rw [nth_take (by omega), if_pos hc]
        exact posG_congr _ _ _ fun i hi => by rw [nth_take (by omega), nth_take hi]
      have hle := posG_le (fun a b => decide (cmp a b < 0)) (nth l (j + 1)) (l.take j) j
      unfold insG
      rw [hpos, hlen]
      generalize posG (fun a b => decide (cmp a b < 0)) (nth l (j + 1)) (l.take j) j = p at *
      rw [htk, List.take_append_of_le_length (by omega), List.drop_append_of_le_length (by omega)]
      simp
    · rw [if_neg hc]
      have hpos : posG (fun a b => decide (cmp a b < 0)) (nth l (j + 1)) (l.take (j + 1)) (l.take (j + 1)).length = j + 1 := by
        rw [show (l.take (j + 1)).length = j + 1 by rw [List.length_take]; omega]
        simp only [posG]
        rw [nth_take (by omega), if_neg hc]
      unfold insG
      rw [hpos]
      rw [List.take_of_length_le (l := l.take (j + 1)) (by simp; omega), List.drop_of_length_le (l := l.take (j + 1)) (by simp; omega), List.append_nil, List.append_assoc, List.singleton_append, ← hdj, List.take_append_drop]
theorem insSort_fold (cmp : α → α → Int) (rest : List α) : ∀ (S : List α), insSort cmp 0 rest.length S.length (S ++ rest) = rest.foldl (insG fun a b => decide (cmp a b < 0)) S := by
  induction rest with
  | nil => intro S; simp [insSort]
  | cons x rest ih =>
    intro S
    simp only [List.length_cons, insSort, List.foldl_cons]
    rw [sink_ins cmp S.length _ (by simp)]
    have e1 : (S ++ x :: rest).take S.length = S := by simp
    have e3 : (S ++ x :: rest).drop (S.length + 1) = rest := by
      rw [List.drop_append]
      simp
    rw [e1, nth_append_len, e3]
    have := ih (insG (fun a b => decide (cmp a b < 0)) S x)
    rwa [insG_len] at this
theorem insSort_sortG (cmp : α → α → Int) (l : List α) : insSort cmp 0 (l.length - 1) 1 l = sortG (fun a b => decide (cmp a b < 0)) l := by
  cases l with
  | nil => rfl
  | cons x l =>
    have := insSort_fold cmp l [x]
    simpa [sortG, insG, posG] using this
end
end Go.Proofs.Ytcmfnfkahdconaa.AM

set_option linter.unusedVariables false
set_option linter.unusedSimpArgs false
set_option maxRecDepth 100000
namespace Go.Proofs.Ytcmfnfkahdconaa.AM
open Go
section
variable {α : Type} [Inhabited α]
theorem insG_split {lt : α → α → Bool} (W : Weak lt) {out : List α} (h : Srt lt out) (x : α) : insG lt out x = out.filter (fun y => !lt x y) ++ x :: out.filter (fun y => lt x y) := by
  obtain ⟨h1, h2⟩ := posG_spec lt x out out.length
  have hp := posG_le lt x out out.length
  generalize hpe : posG lt x out out.length = p at *
  have hs := pw_nth.1 h
  have hA : ∀ y ∈ out.take p, lt x y = false := by
    intro y hy
    obtain ⟨i, hi, rfl⟩ := mem_nth hy
    simp only [List.length_take] at hi
    have hi' : i < p := by omega
    rw [nth_take hi']
    have h3 := h2 (by omega)
    rcases Nat.lt_or_ge i (p - 1) with h4 | h4
    · exact W.trans _ _ _ (hs i (p - 1) h4 (by omega)) (by simpa using h3)
    · rw [show i = p - 1 by omega]; simpa using h3
  have hB : ∀ y ∈ out.drop p, lt x y = true := by
    intro y hy
    obtain ⟨i, hi, rfl⟩ := mem_nth hy
    simp only [List.length_drop] at hi
    rw [nth_drop]
    exact h1 (p + i) (by omega) (by omega)
  have e1 : out.filter (fun y => !lt x y) = out.take p := by
    conv => lhs; rw [← List.take_append_drop p out]
    rw [List.filter_append, List.filter_eq_self.2 (fun y hy => by simp [hA y hy]), List.filter_eq_nil_iff.2 (fun y hy => by simp [hB y hy]), List.append_nil]
  have e2 : out.filter (fun y => lt x y) = out.drop p := by
    conv => lhs; rw [← List.take_append_drop p out]
    rw [List.filter_append, List.filter_eq_nil_iff.2 (fun y hy => by simp [hA y hy]), List.filter_eq_self.2 (fun y hy => by simp [hB y hy]), List.nil_append]
  unfold insG
  rw [hpe, e1, e2]; simp
end
end Go.Proofs.Ytcmfnfkahdconaa.AM

set_option linter.unusedVariables false
set_option linter.unusedSimpArgs false
set_option maxRecDepth 100000
namespace Go.Proofs.Ytcmfnfkahdconaa.AM
open Go
attribute [local irreducible] Tp.card Tp.cardT Tp.next Tp.step Tp.cards Tp.cardsT Tp.key Tp.keyT
abbrev ltE (a b : Card) : Bool := decide (cmpK a.key b.key < 0)
theorem ltE_before : (fun a b : Card => beforeK a.key b.key) = ltE := by funext a b; exact (less_before a.key b.key).symm
theorem weakE : Weak ltE := ⟨fun a b h => by rw [← ltE_before] at h ⊢; exact bk_asymm h, fun a b c h k => by rw [← ltE_before] at h k ⊢; exact bk_le_trans h k⟩
theorem posK_posG (c : Card) (out : List Card) (k : Nat) : posK c out k = posG (fun a b : Card => beforeK a.key b.key) c out k := by
  induction k with
  | zero => rfl
  | succ k ih => simp only [posK, posG, ih]
theorem sortK_sortG (l : List Card) : sortK l = sortG ltE l := by
  rw [← ltE_before]
  have : insK = insG (fun a b : Card => beforeK a.key b.key) := by funext out c; unfold insK insG; rw [posK_posG]
  unfold sortK sortG; rw [this]
theorem sortP_sortK (l : List Card) : sortP l = sortK l := by rw [sortK_sortG]; exact insSort_sortG _ l
end Go.Proofs.Ytcmfnfkahdconaa.AM

set_option linter.unusedVariables false
set_option linter.unusedSimpArgs false
set_option maxRecDepth 100000
namespace Go.Proofs.Ytcmfnfkahdconaa.AM
open Go
attribute [local irreducible] Tp.card Tp.cardT Tp.next Tp.step Tp.cards Tp.cardsT Tp.key Tp.keyT
end Go.Proofs.Ytcmfnfkahdconaa.AM

set_option maxRecDepth 100000
set_option linter.unusedVariables false
set_option linter.unusedSimpArgs false
namespace Go.Proofs.Ytcmfnfkahdconaa.AM
open Go Go.Proofs.Ytcmfnfkahdconaa
attribute [local irreducible] ACalls funT codeT codeQ LoopTo
attribute [local irreducible] Tp.card Tp.cardT Tp.next Tp.step Tp.cards Tp.cardsT Tp.key Tp.keyT sink insSort sortK insK posK beforeK sortP cmpK strL
end Go.Proofs.Ytcmfnfkahdconaa.AM

set_option maxRecDepth 100000
set_option linter.unusedVariables false
set_option linter.unusedSimpArgs false
namespace Go.Proofs.Ytcmfnfkahdconaa.AM
open Go Go.Proofs.Ytcmfnfkahdconaa
attribute [local irreducible] ACalls funT codeT codeQ LoopTo
attribute [local irreducible] Tp.card Tp.cardT Tp.next Tp.step Tp.cards Tp.cardsT Tp.key Tp.keyT sink insSort sortK insK posK beforeK sortP cmpK strL
end Go.Proofs.Ytcmfnfkahdconaa.AM

set_option maxRecDepth 100000
set_option linter.unusedVariables false
set_option linter.unusedSimpArgs false
namespace Go.Proofs.Ytcmfnfkahdconaa.AM
open Go Go.Proofs.Ytcmfnfkahdconaa
attribute [local irreducible] ACalls funT codeT codeQ LoopTo
abbrev zRow : List AV := [(AV.int .i64 0), (AV.int .i64 0), (AV.int .i64 0), (AV.int .i64 0), (AV.int .i64 0), (AV.int .i64 0), (AV.int .i64 0), (AV.str ⟨#[]⟩), (AV.str ⟨#[]⟩), (AV.bool false), (AV.int .u32 0), (AV.sl .nil 0 []), (AV.sl .nil 0 [])]
abbrev mRow (x b u c : AV) : List AV := [(AV.int .i64 2), (AV.int .i64 5), (AV.int .i64 0), (AV.int .i64 0), (AV.int .i64 0), (AV.int .i64 0), x, (AV.str ⟨#[]⟩), (AV.str ⟨#[]⟩), b, u, c, (AV.sl .nil 0 [])]
@[simp] theorem zRow_bdds (n : Nat) : AV.bdds n zRow = true := by simp [AV.bdds, AV.bdd]
@[simp] theorem mRow_bdds (n : Nat) (x b u c : AV) : AV.bdds n (mRow x b u c) = (AV.bdd n x && (AV.bdd n b && (AV.bdd n u && AV.bdd n c))) := by simp [AV.bdds, AV.bdd]
attribute [local irreducible] recL findP findB putL putE putG getE capM sortP sortK
end Go.Proofs.Ytcmfnfkahdconaa.AM

set_option maxRecDepth 100000
set_option linter.unusedVariables false
set_option linter.unusedSimpArgs false
namespace Go.Proofs.Ytcmfnfkahdconaa.AM
open Go Go.Proofs.Ytcmfnfkahdconaa
attribute [local irreducible] ACalls funT codeT codeQ LoopTo
attribute [local irreducible] findP findB putL putE putG getE capM sortP sortK Tp.card Tp.cardT Tp.next Tp.step
def recnew0_ann : Ann := { fin := some 1 }
set_option maxRecDepth 100000 in
theorem recnew0_spec   : ACalls Try.prog 53 [] ([] : Heap) ((AV.obj 0 0 0 0), ([⟨0, 2, [[(.int .i64 0), (.sl .nil 0 [])]], none⟩] : Heap)) :=
  specO (fn := Try.f53) (ann := recnew0_ann) (Has.o Try.func53) (.r (.g (.r (.g (.h' ([⟨0, 2, [[(AV.int .i64 0), (AV.sl .nil 0 [])]], none⟩] : Heap) (.f 1 (AV.obj 0 0 0 0) (.e (AV.obj 0 0 0 0))))))))
theorem recnew_spec   : ACalls Try.prog 53 [] ([] : Heap) ((AV.obj 0 0 0 0), ([⟨0, 2, [[(.int .i64 (((List.length ([] : List Key)) : Nat) : Int)), (.osl 1 0 2 0 (List.length (recL ([] : List Key))))]], none⟩, ⟨0, 2, (List.map Key.row (recL ([] : List Key))), none⟩] : Heap)) := (recnew0_spec).virField
attribute [local irreducible] recL
end Go.Proofs.Ytcmfnfkahdconaa.AM

set_option maxRecDepth 100000
set_option linter.unusedVariables false
set_option linter.unusedSimpArgs false
namespace Go.Proofs.Ytcmfnfkahdconaa.AM
open Go Go.Proofs.Ytcmfnfkahdconaa
attribute [local irreducible] ACalls funT codeT codeQ LoopTo
attribute [local irreducible] findP findB putL putE putG getE capM sortP sortK Tp.card Tp.cardT Tp.next Tp.step recL
def hold40 (n : Int) : Int := max 0 (min n 1099511627776)
def dheld_ann : Ann := { fin := some 0 }
set_option maxRecDepth 100000 in
theorem dheld_spec (now : Int)  : ACalls Try.prog 70 [(.int .i64 now)] ([] : Heap) ((AV.int .i64 (hold40 now)), ([] : Heap)) :=
  specO (fn := Try.f70) (ann := dheld_ann) (Has.o Try.func70) (.r (.g (.r (.y 1 (.int .i64 (if 1099511627776 < now then 1099511627776 else now)) (AV.int .i64 (min now 1099511627776)) (Yes.int (by split <;> omega)) (.y 2 (.int .i64 (if (min now 1099511627776) > 0 then (min now 1099511627776) else 0)) (AV.int .i64 (max 0 (min now 1099511627776))) (Yes.int (by split <;> omega)) (.g (.f 0 (AV.int .i64 (max 0 (min now 1099511627776))) (.e (AV.int .i64 (max 0 (min now 1099511627776))) (by
        simp [hold40, Int.max_comm, Int.min_comm])))))))))
theorem dheld_at (now : Int)  (H : Heap) : ACalls Try.prog 70 [(.int .i64 now)] H ((AV.int .i64 (hold40 now)), H) := (dheld_spec now ).lift kr kr H
def gnew_ann : Ann := { fin := some 1 }
@[simp] abbrev Wg_o1 (v1_ : Int) : Ob := ⟨0, 3, [[(AV.int .i64 v1_), (AV.int .i64 0), (AV.int .i64 0)]], none⟩
@[simp] abbrev Wg_1 (v1_ : Int) : Heap := [Wg_o1 v1_]
set_option maxRecDepth 100000 in
theorem gnew_spec (now : Int)  : ACalls Try.prog 71 [(.int .i64 now)] ([] : Heap) ((AV.obj 0 0 0 0), (Wg_1 now)) :=
  specO (fn := Try.f71) (ann := gnew_ann) (Has.o Try.func71) (.r (.g (.r (.g (.h' (Wg_1 now) (.f 1 (AV.obj 0 0 0 0) (.e (AV.obj 0 0 0 0))))))))
def dshelf_ann : Ann := { base := 6, fin := some 6 }
@[simp] abbrev Wg_o2 (v1_ : Int) (v2_ : Int) (v3_ : Int) : Ob := ⟨0, 3, [[(AV.int .i64 v1_), (AV.int .i64 v2_), (AV.int .i64 v3_)]], none⟩
@[simp] abbrev Wg_o3 (v1_ : List Key) (v2_ : Nat) : Ob := ⟨0, 2, [[(AV.int .i64 (((List.length v1_) : Nat) : Int)), (AV.osl 4 v2_ 2 0 (List.length (recL v1_)))]], none⟩
@[simp] abbrev Wg_o4 (v1_ : Int) (v2_ : Int) (v3_ : Int) (v4_ : Int) : Ob := ⟨0, 7, [[(AV.int .i64 v1_), (AV.int .i64 v2_), (AV.int .i64 v3_), (AV.int .i64 v4_), (AV.obj 0 0 0 0), (AV.obj 2 0 0 0), (AV.obj 3 0 0 0)]], none⟩
@[simp] abbrev Wg_2 (v1_ : Nat) (v2_ : List Entry) (v3_ : Int) (v4_ : Int) (v5_ : Int) (v6_ : List Key) (v7_ : Nat) (v8_ : Int) (v9_ : Int) (v10_ : Int) (v11_ : Int) : Heap := [⟨0, 2, [[(AV.int .i64 (capM 32)), (AV.osl 1 v1_ 10 0 (List.length v2_))]], none⟩, ⟨v1_, 10, (List.map Entry.row v2_), none⟩, Wg_o2 v3_ v4_ v5_, Wg_o3 v6_ v7_, ⟨v7_, 2, (List.map Key.row (recL v6_)), none⟩, Wg_o4 v8_ v9_ v10_ v11_]
set_option maxRecDepth 100000 in
theorem dshelf_spec (l : List Entry) (g : Nat) (al : List Key) (ga : Nat) (gf gl gt nd s1 s2 s3 : Int)  : ACalls Try.prog 32 [(.obj 5 0 0 0)] (Wg_2 g l gf gl gt al ga nd s1 s2 s3) ((AV.obj 0 0 0 0), (Wg_2 g l gf gl gt al ga nd s1 s2 s3)) :=
  specO (fn := Try.f32) (ann := dshelf_ann) (Has.o Try.func32) (.r (.g (.r (.g (.f 6 (AV.obj 0 0 0 0) (.e (AV.obj 0 0 0 0)))))))
def drecent_ann : Ann := { base := 6, fin := some 6 }
set_option maxRecDepth 100000 in
theorem drecent_spec (l : List Entry) (g : Nat) (al : List Key) (ga : Nat) (gf gl gt nd s1 s2 s3 : Int)  : ACalls Try.prog 35 [(.obj 5 0 0 0)] (Wg_2 g l gf gl gt al ga nd s1 s2 s3) ((AV.obj 3 0 0 0), (Wg_2 g l gf gl gt al ga nd s1 s2 s3)) :=
  specO (fn := Try.f35) (ann := drecent_ann) (Has.o Try.func35) (.r (.g (.r (.g (.f 6 (AV.obj 3 0 0 0) (.e (AV.obj 3 0 0 0)))))))
def dstamp_ann : Ann := { base := 6, fin := some 6 }
set_option maxRecDepth 100000 in
theorem dstamp_spec (l : List Entry) (g : Nat) (al : List Key) (ga : Nat) (gf gl gt nd s1 s2 s3 : Int)  : ACalls Try.prog 66 [(.obj 5 0 0 0)] (Wg_2 g l gf gl gt al ga nd s1 s2 s3) ((AV.agg (Stamp.row (Stamp.mk s1 s2 s3))), (Wg_2 g l gf gl gt al ga nd s1 s2 s3)) :=
  specO (fn := Try.f66) (ann := dstamp_ann) (Has.o Try.func66) (.r (.g (.r (.g (.f 6 (AV.agg [(AV.int .i64 s1), (AV.int .i64 s2), (AV.int .i64 s3)]) (.e (AV.agg [(AV.int .i64 s1), (AV.int .i64 s2), (AV.int .i64 s3)])))))))
def dnew_ann : Ann := { fin := some 6 }
@[simp] abbrev Wg_o5  : Ob := ⟨0, 2, [[(AV.int .i64 (capM 32)), (AV.osl 1 0 10 0 0)]], none⟩
@[simp] abbrev Wg_3  : Heap := [Wg_o5, ⟨0, 10, (List.map Entry.row []), none⟩]
@[simp] abbrev Wg_4 (v1_ : Int) : Heap := [Wg_o5, ⟨0, 10, (List.map Entry.row []), none⟩, Wg_o1 v1_]
@[simp] abbrev Wg_5 (v1_ : Int) : Heap := [Wg_o5, ⟨0, 10, (List.map Entry.row []), none⟩, Wg_o1 v1_, ⟨0, 2, [[(AV.int .i64 (((List.length ([] : List Key)) : Nat) : Int)), (AV.osl 4 0 2 0 (List.length (recL ([] : List Key))))]], none⟩, ⟨0, 2, (List.map Key.row (recL ([] : List Key))), none⟩]
set_option maxRecDepth 100000 in
theorem dnew_spec (nd now : Int) (h1 : 0 ≤ nd) (h2 : nd < 6) (h3 : hold40 now = now) : ACalls Try.prog 31 [(.int .i64 nd), (.int .i64 now)] ([] : Heap) ((AV.obj 5 0 0 0), ([⟨0, 2, [[(.int .i64 (capM 32)), (.osl 1 0 10 0 (List.length ([] : List Entry)))]], none⟩, ⟨0, 10, (List.map Entry.row ([] : List Entry)), none⟩, ⟨0, 3, [[(.int .i64 now), (.int .i64 0), (.int .i64 0)]], none⟩, ⟨0, 2, [[(.int .i64 (((List.length ([] : List Key)) : Nat) : Int)), (.osl 4 0 2 0 (List.length (recL ([] : List Key))))]], none⟩, ⟨0, 2, (List.map Key.row (recL ([] : List Key))), none⟩, ⟨0, 7, [[(.int .i64 nd), (.int .i64 0), (.int .i64 nd), (.int .i64 0), (.obj 0 0 0 0), (.obj 2 0 0 0), (.obj 3 0 0 0)]], none⟩] : Heap)) :=
  specO (fn := Try.f31) (ann := dnew_ann) (Has.o Try.func31) (.r (.g (.r (.y 1 (AV.bool (decide (nd < 0))) (AV.bool false) (Yes.bool (by simp; omega)) (.no (.no (.y 4 (AV.bool (decide (nd ≥ 6))) (AV.bool false) (Yes.bool (by simp; omega)) (.no (.no (.no (.c 9 (dheld_at now  ([] : Heap)) (.no (.y 10 (AV.bool (now != (hold40 now))) (AV.bool false) (Yes.bool (by rw [h3]; simp)) (.g (.no (.r (.ch 3 Wg_3 (ACalls.put2 [] ([] : Heap) (AV.obj 0 0 0 0) Wg_3 (snew_spec 32 ) (trivial) (⟨rfl, ⟨Ob.ren0 (Entry.rows_bdd 0 _), trivial⟩⟩)) (.ch 5 (Wg_4 now) (ACalls.put2 [] Wg_3 (AV.obj 2 0 0 0) (Wg_4 now) (gnew_spec now ) (trivial) (⟨rfl, trivial⟩)) (.ch 6 (Wg_5 now) (ACalls.put2 [] (Wg_4 now) (AV.obj 3 0 0 0) (Wg_5 now) (recnew_spec  ) (trivial) (⟨rfl, ⟨Ob.ren0 (Key.rows_bdd 0 _), trivial⟩⟩)) (.g (.h' ([⟨0, 2, [[(AV.int .i64 (capM 32)), (AV.osl 1 0 10 0 0)]], none⟩, ⟨0, 10, (List.map Entry.row []), none⟩, ⟨0, 3, [[(AV.int .i64 now), (AV.int .i64 0), (AV.int .i64 0)]], none⟩, ⟨0, 2, [[(AV.int .i64 (((List.length ([] : List Key)) : Nat) : Int)), (AV.osl 4 0 2 0 (List.length (recL ([] : List Key))))]], none⟩, ⟨0, 2, (List.map Key.row (recL ([] : List Key))), none⟩, ⟨0, 7, [[(AV.int .i64 nd), (AV.int .i64 0), (AV.int .i64 nd), (AV.int .i64 0), (AV.obj 0 0 0 0), (AV.obj 2 0 0 0), (AV.obj 3 0 0 0)]], none⟩] : Heap) (.f 6 (AV.obj 5 0 0 0) (.e (AV.obj 5 0 0 0))))))))))))))))))))))))
def dsetY_ann : Ann := { refs := [3], base := 6, fin := some 6 }
@[simp] abbrev Wg_o6 (v1_ : List Entry) (v2_ : Entry) (v3_ : Nat) : Ob := ⟨0, 2, [[(AV.int .i64 (capM 32)), (AV.osl 1 (putG (capM 32) v1_ v2_ v3_) 10 0 (List.length (putL (capM 32) v1_ v2_)))]], none⟩
@[simp] abbrev Wg_o7 (v1_ : List Entry) (v2_ : Entry) (v3_ : Nat) : Ob := ⟨(putG (capM 32) v1_ v2_ v3_), 10, (List.map Entry.row (putL (capM 32) v1_ v2_)), none⟩
@[simp] abbrev Wg_6 (v1_ : List Entry) (v2_ : Entry) (v3_ : Nat) (v4_ : Int) (v5_ : Int) (v6_ : Int) (v7_ : List Key) (v8_ : Nat) (v9_ : Int) (v10_ : Int) (v11_ : Int) (v12_ : Int) : Heap := [Wg_o6 v1_ v2_ v3_, Wg_o7 v1_ v2_ v3_, Wg_o2 v4_ v5_ v6_, ⟨0, 2, [[(AV.int .i64 (((List.length (v7_ ++ [v2_.card.key])) : Nat) : Int)), (AV.osl 4 (v8_ + 1 + 1) 2 0 (List.length (recL (v7_ ++ [v2_.card.key]))))]], none⟩, ⟨(v8_ + 1 + 1), 2, (List.map Key.row (recL (v7_ ++ [v2_.card.key]))), none⟩, Wg_o4 v9_ v10_ v11_ v12_]
@[simp] abbrev Wg_7 (v1_ : List Entry) (v2_ : Entry) (v3_ : Nat) (v4_ : Int) (v5_ : Int) (v6_ : Int) (v7_ : List Key) (v8_ : Nat) (v9_ : Int) (v10_ : Int) (v11_ : Int) (v12_ : Int) : Heap := [Wg_o6 v1_ v2_ v3_, Wg_o7 v1_ v2_ v3_, Wg_o2 v4_ v5_ v6_, Wg_o3 v7_ v8_, ⟨v8_, 2, (List.map Key.row (recL v7_)), none⟩, Wg_o4 v9_ v10_ v11_ v12_]
@[simp] abbrev Wg_8 (v1_ : Int) (v2_ : Int) (v3_ : Int) (v4_ : List Key) (v5_ : Nat) (v6_ : Int) (v7_ : Int) (v8_ : Int) (v9_ : Int) : Heap := [Wg_o2 v1_ v2_ v3_, Wg_o3 v4_ v5_, ⟨v5_, 2, (List.map Key.row (recL v4_)), none⟩, Wg_o4 v6_ v7_ v8_ v9_]
set_option maxRecDepth 100000 in
theorem dsetY_spec (l : List Entry) (g : Nat) (al : List Key) (ga : Nat) (gf gl gt nd s1 s2 s3 : Int) (x : Entry) (hl : l.length < 1000) (ha : al.length < 100000) (h : ((putE (capM 32) l x) == 0) = true) : ACalls Try.prog 74 [(.obj 5 0 0 0), (.agg (Entry.row x))] (Wg_2 g l gf gl gt al ga nd s1 s2 s3) ((AV.int .i64 (putE (capM 32) l x)), (Wg_6 l x g gf gl gt al ga nd s1 s2 s3)) := by
  have p1 := putL_len (capM 32) l x
  exact specO (fn := Try.f74) (ann := dsetY_ann) (Has.o Try.func74) (.r (.g (.r (.ch 5 (Wg_7 l x g gf gl gt al ga nd s1 s2 s3) (put_at (capM 32) l x g (List.length l) oa oa (Wg_8 gf gl gt al ga nd s1 s2 s3)) (.g (.r (.y 1 (AV.bool ((putE (capM 32) l x) == 0)) (AV.bool true) (Yes.bool (h)) (.g (.yes (.r (.ch 7 (Wg_6 l x g gf gl gt al ga nd s1 s2 s3) (ACalls.pre (args' := [(AV.obj 3 0 0 0), (AV.agg (Key.row x.card.key))]) (ACalls.put2 [3, 4] (Wg_7 l x g gf gl gt al ga nd s1 s2 s3) (AV.int .i64 (((al ++ [x.card.key]).length : Nat) : Int)) (Wg_6 l x g gf gl gt al ga nd s1 s2 s3) (radd_spec al x.card.key ga oa) (⟨rfl, ⟨Ob.ren0 (Key.rows_bdd 0 _), trivial⟩⟩) (⟨rfl, ⟨Ob.ren0 (Key.rows_bdd 0 _), trivial⟩⟩)) ⟨AV.wk_refl_any _, AV.wk_refl_any _, trivial⟩) (.g (.r (.g (.f 6 (AV.int .i64 (putE (capM 32) l x)) (.e (AV.int .i64 (putE (capM 32) l x))))))))))))))))))
def dsetN_ann : Ann := { refs := [3], base := 6, fin := some 6 }
set_option maxRecDepth 100000 in
theorem dsetN_spec (l : List Entry) (g : Nat) (al : List Key) (ga : Nat) (gf gl gt nd s1 s2 s3 : Int) (x : Entry) (hl : l.length < 1000) (ha : al.length < 100000) (h : ((putE (capM 32) l x) == 0) = false) : ACalls Try.prog 74 [(.obj 5 0 0 0), (.agg (Entry.row x))] (Wg_2 g l gf gl gt al ga nd s1 s2 s3) ((AV.int .i64 (putE (capM 32) l x)), (Wg_7 l x g gf gl gt al ga nd s1 s2 s3)) := by
  have p1 := putL_len (capM 32) l x
  exact specO (fn := Try.f74) (ann := dsetN_ann) (Has.o Try.func74) (.r (.g (.r (.ch 5 (Wg_7 l x g gf gl gt al ga nd s1 s2 s3) (put_at (capM 32) l x g (List.length l) oa oa (Wg_8 gf gl gt al ga nd s1 s2 s3)) (.g (.r (.y 1 (AV.bool ((putE (capM 32) l x) == 0)) (AV.bool false) (Yes.bool (h)) (.g (.no (.r (.g (.f 6 (AV.int .i64 (putE (capM 32) l x)) (.e (AV.int .i64 (putE (capM 32) l x)))))))))))))))
def setA (l : List Entry) (x : Entry) (al : List Key) : List Key := if (putE (capM 32) l x == 0) = true then al ++ [x.card.key] else al
def setG (l : List Entry) (x : Entry) (ga : Nat) : Nat := if (putE (capM 32) l x == 0) = true then ga + 1 + 1 else ga
theorem dset_spec (l : List Entry) (g : Nat) (al : List Key) (ga : Nat) (gf gl gt nd s1 s2 s3 : Int) (x : Entry) (hl : l.length < 1000) (ha : al.length < 100000) : ACalls Try.prog 74 [(.obj 5 0 0 0), (.agg (Entry.row x))] ([⟨0, 2, [[(.int .i64 (capM 32)), (.osl 1 g 10 0 (List.length l))]], none⟩, ⟨g, 10, (List.map Entry.row l), none⟩, ⟨0, 3, [[(.int .i64 gf), (.int .i64 gl), (.int .i64 gt)]], none⟩, ⟨0, 2, [[(.int .i64 (((List.length al) : Nat) : Int)), (.osl 4 ga 2 0 (List.length (recL al)))]], none⟩, ⟨ga, 2, (List.map Key.row (recL al)), none⟩, ⟨0, 7, [[(.int .i64 nd), (.int .i64 s1), (.int .i64 s2), (.int .i64 s3), (.obj 0 0 0 0), (.obj 2 0 0 0), (.obj 3 0 0 0)]], none⟩] : Heap) ((AV.int .i64 (putE (capM 32) l x)), ([⟨0, 2, [[(.int .i64 (capM 32)), (.osl 1 (putG (capM 32) l x g) 10 0 (List.length (putL (capM 32) l x)))]], none⟩, ⟨(putG (capM 32) l x g), 10, (List.map Entry.row (putL (capM 32) l x)), none⟩, ⟨0, 3, [[(.int .i64 gf), (.int .i64 gl), (.int .i64 gt)]], none⟩, ⟨0, 2, [[(.int .i64 (((List.length (setA l x al)) : Nat) : Int)), (.osl 4 (setG l x ga) 2 0 (List.length (recL (setA l x al))))]], none⟩, ⟨(setG l x ga), 2, (List.map Key.row (recL (setA l x al))), none⟩, ⟨0, 7, [[(.int .i64 nd), (.int .i64 s1), (.int .i64 s2), (.int .i64 s3), (.obj 0 0 0 0), (.obj 2 0 0 0), (.obj 3 0 0 0)]], none⟩] : Heap)) := by
  cases h : (putE (capM 32) l x == 0) with
  | true => unfold setA setG; rw [if_pos h, if_pos h]; exact dsetY_spec l g al ga gf gl gt nd s1 s2 s3 x hl ha h
  | false => unfold setA setG; rw [if_neg (by rw [h]; simp), if_neg (by rw [h]; simp)]; exact dsetN_spec l g al ga gf gl gt nd s1 s2 s3 x hl ha h
theorem dset_at (l : List Entry) (g : Nat) (al : List Key) (ga : Nat) (gf gl gt nd s1 s2 s3 : Int) (x : Entry) (hl : l.length < 1000) (ha : al.length < 100000) (H : Heap) : ACalls Try.prog 74 [(.obj 5 0 0 0), (.agg (Entry.row x))] ((Wg_2 g l gf gl gt al ga nd s1 s2 s3) ++ H) ((AV.int .i64 (putE (capM 32) l x)), ([⟨0, 2, [[(.int .i64 (capM 32)), (.osl 1 (putG (capM 32) l x g) 10 0 (List.length (putL (capM 32) l x)))]], none⟩, ⟨(putG (capM 32) l x g), 10, (List.map Entry.row (putL (capM 32) l x)), none⟩, ⟨0, 3, [[(.int .i64 gf), (.int .i64 gl), (.int .i64 gt)]], none⟩, ⟨0, 2, [[(.int .i64 (((List.length (setA l x al)) : Nat) : Int)), (.osl 4 (setG l x ga) 2 0 (List.length (recL (setA l x al))))]], none⟩, ⟨(setG l x ga), 2, (List.map Key.row (recL (setA l x al))), none⟩, ⟨0, 7, [[(.int .i64 nd), (.int .i64 s1), (.int .i64 s2), (.int .i64 s3), (.obj 0 0 0 0), (.obj 2 0 0 0), (.obj 3 0 0 0)]], none⟩] : Heap) ++ H) := (dset_spec l g al ga gf gl gt nd s1 s2 s3 x hl ha).ext kr kr ob ob kr H
end Go.Proofs.Ytcmfnfkahdconaa.AM
