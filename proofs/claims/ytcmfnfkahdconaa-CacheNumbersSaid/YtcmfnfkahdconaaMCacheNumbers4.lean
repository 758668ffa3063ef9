/-
  Texts of this claim, part 4 of 6: an abstract machine over the model; what functions come to; plain laws.
-/
import Derived.Test.YtcmfnfkahdconaaMCacheNumbers3
set_option linter.unusedVariables false
set_option linter.unusedSimpArgs false
namespace Go.Proofs.Ytcmfnfkahdconaa.AM
open Go
end Go.Proofs.Ytcmfnfkahdconaa.AM

set_option linter.unusedVariables false
set_option linter.unusedSimpArgs false
namespace Go.Proofs.Ytcmfnfkahdconaa.AM
open Go
end Go.Proofs.Ytcmfnfkahdconaa.AM

set_option linter.unusedVariables false
set_option linter.unusedSimpArgs false
namespace Go.Proofs.Ytcmfnfkahdconaa.AM
open Go
end Go.Proofs.Ytcmfnfkahdconaa.AM

set_option linter.unusedVariables false
set_option linter.unusedSimpArgs false
namespace Go.Proofs.Ytcmfnfkahdconaa.AM
open Go
end Go.Proofs.Ytcmfnfkahdconaa.AM

set_option linter.unusedVariables false
set_option linter.unusedSimpArgs false
namespace Go.Proofs.Ytcmfnfkahdconaa.AM
open Go
section
variable {G : Nat → Prop} {w : World} {C : Cx} {H : Heap}
end
end Go.Proofs.Ytcmfnfkahdconaa.AM

set_option linter.unusedVariables false
set_option linter.unusedSimpArgs false
namespace Go.Proofs.Ytcmfnfkahdconaa.AM
open Go
end Go.Proofs.Ytcmfnfkahdconaa.AM

set_option linter.unusedVariables false
set_option linter.unusedSimpArgs false
namespace Go.Proofs.Ytcmfnfkahdconaa.AM
open Go
def ixX (o : Oper) : Operand := match o.op with
  | .index _ x _ => x
  | _ => .tmp 0
def ixN (o : Oper) : Operand := match o.op with
  | .index _ _ i => i
  | _ => .tmp 0
theorem str_get {s : ByteArray} {i : Nat} (h : i < s.size) : ∃ b : UInt8, s[i]? = some b ∧ nth (strL s) i = (b.toNat : Int) := by
  refine ⟨s[i], by simp [h], ?_⟩
  have h2 : i < s.data.toList.length := by simpa using h
  unfold strL nth
  rw [List.getD_eq_getElem?_getD, List.getElem?_map, List.getElem?_eq_getElem h2]
  rfl
theorem sat_index {P : Program} {X : Env} {F : Fr} {H : Heap} {ar : Nat} {o : Oper} (hT : TOk P X.T) {xt : TypeId} {ts : TI} {s : ByteArray} {i : Int} {n : Nat} (hop : o.op = .index xt (ixX o) (ixN o)) (hsem : isSem X o = true) (hs : X.T xt = some ts) (hsd : ts.d = .string)
    (hx : opv F (ixX o) = some (.str s)) (hi : opv F (ixN o) = some (.int .i64 i)) (hn : i = (n : Int)) (hlt : n < s.size) : Sat P X F H ar o (.int .u8 (nth (strL s) n)) H := by
  refine Sat.sem hsem ?_
  obtain ⟨dst, op, type, pos, after, guard⟩ := o
  simp only at hop
  generalize ixX _ = x at hop hx
  generalize ixN _ = y at hop hi
  subst hop hn
  intro G w C f hf hH
  have hv := hf x (by simp [Op.operands]) _ hx
  have hv2 := hf y (by simp [Op.operands]) _ hi
  generalize hu : f x = u at hv
  generalize hu2 : f y = u2 at hv2
  cases hv
  cases hv2
  have h2 : P.underlying xt = some .string := by
    have := (hT _ _ hs).und
    rw [hsd] at this
    exact this
  obtain ⟨b, hb, hnb⟩ := str_get hlt
  have hr : (Instr.index xt (f x) (f y)).run P w = .ok (.int .u8 b.toNat) w := by
    rw [hu, hu2]
    simp [Instr.index, asIntOf, run_underlying h2, hb]
  rw [hnb]
  exact ⟨_, w, by simp [execOp, hr], G, C, Ev.refl .., hH, .int .., Pd.refl⟩
end Go.Proofs.Ytcmfnfkahdconaa.AM

set_option maxRecDepth 100000
set_option linter.unusedVariables false
set_option linter.unusedSimpArgs false
namespace Go.Proofs.Ytcmfnfkahdconaa.AM
open Go Go.Proofs.Ytcmfnfkahdconaa
attribute [local irreducible] ACalls funT codeT codeQ LoopTo
def stR (s : Stamp) : Bool := decide (0 ≤ s.t) && (decide (0 ≤ s.n) && (decide (0 ≤ s.node) && decide (s.node < 6)))
def stRight_ann : Ann := { refs := [1], fin := some 0 }
set_option maxRecDepth 100000 in
theorem stRight_spec (s : Stamp)  : ACalls Try.prog 125 [(.agg (Stamp.row s))] ([] : Heap) ((AV.bool (stR s)), ([] : Heap)) :=
  specO (fn := Try.f125) (ann := stRight_ann) (Has.o Try.func125) (.r (.g (.r (.two (decide (s.t ≥ 0)) (fun h1 h1' => (.yes (.yes (.two (decide (s.n ≥ 0)) (fun h2 h2' => (.yes (.yes (.two (decide (s.node ≥ 0)) (fun h3 h3' => (.yes (.yes (.g (.f 0 (AV.bool (decide (s.node < 6))) (.e (AV.bool (decide (s.node < 6))) (by
        simp only [stR]
        simp_all <;> omega))))))) (fun h3 h3' => (.no (.no (.g (.f 0 (AV.bool false) (.e (AV.bool false) (by
        simp only [stR]
        simp_all <;> omega))))))))))) (fun h2 h2' => (.no (.no (.no (.no (.no (.g (.f 0 (AV.bool false) (.e (AV.bool false) (by
        simp only [stR]
        simp_all <;> omega)))))))))))))) (fun h1 h1' => (.no (.no (.no (.no (.no (.no (.no (.no (.g (.f 0 (AV.bool false) (.e (AV.bool false) (by
        simp only [stR]
        simp_all <;> omega)))))))))))))))))
theorem stRight_at (s : Stamp)  (H : Heap) : ACalls Try.prog 125 [(.agg (Stamp.row s))] H ((AV.bool (stR s)), H) := (stRight_spec s ).lift kr kr H
def rstRight_ann : Ann := { refs := [1], fin := some 0 }
set_option maxRecDepth 100000 in
theorem rstRight_spec (s : Stamp)  : ACalls Try.prog 148 [(.agg (Stamp.row s))] ([] : Heap) ((AV.bool (stR s)), ([] : Heap)) :=
  specO (fn := Try.f148) (ann := rstRight_ann) (Has.o Try.func148) (.r (.g (.r (.two (decide (s.t ≥ 0)) (fun h1 h1' => (.yes (.yes (.two (decide (s.n ≥ 0)) (fun h2 h2' => (.yes (.yes (.two (decide (s.node ≥ 0)) (fun h3 h3' => (.yes (.yes (.g (.f 0 (AV.bool (decide (s.node < 6))) (.e (AV.bool (decide (s.node < 6))) (by
        simp only [stR]
        simp_all <;> omega))))))) (fun h3 h3' => (.no (.no (.g (.f 0 (AV.bool false) (.e (AV.bool false) (by
        simp only [stR]
        simp_all <;> omega))))))))))) (fun h2 h2' => (.no (.no (.no (.no (.no (.g (.f 0 (AV.bool false) (.e (AV.bool false) (by
        simp only [stR]
        simp_all <;> omega)))))))))))))) (fun h1 h1' => (.no (.no (.no (.no (.no (.no (.no (.no (.g (.f 0 (AV.bool false) (.e (AV.bool false) (by
        simp only [stR]
        simp_all <;> omega)))))))))))))))))
theorem rstRight_at (s : Stamp)  (H : Heap) : ACalls Try.prog 148 [(.agg (Stamp.row s))] H ((AV.bool (stR s)), H) := (rstRight_spec s ).lift kr kr H
end Go.Proofs.Ytcmfnfkahdconaa.AM

set_option maxRecDepth 100000
set_option linter.unusedVariables false
set_option linter.unusedSimpArgs false
namespace Go.Proofs.Ytcmfnfkahdconaa.AM
open Go Go.Proofs.Ytcmfnfkahdconaa
attribute [local irreducible] ACalls funT codeT codeQ LoopTo
def charOk (c : Int) : Bool := (decide (97 ≤ c) && decide (c ≤ 122)) || (decide (48 ≤ c) && decide (c ≤ 57))
def nameB (tx : ByteArray) : Bool := decide (0 < tx.size) && (decide (tx.size ≤ 16) && (strL tx).all charOk)
theorem all_nth {l : List Int} {f : Int → Bool} (h : l.all f = true) {j : Nat} (hj : j < l.length) : f (nth l j) = true := by
  rw [List.all_eq_true] at h
  have := nth_get hj
  exact h _ (List.mem_of_getElem? this)
theorem all_no {l : List Int} {f : Int → Bool} (h : l.all f = false) : ∃ j, j < l.length ∧ f (nth l j) = false := by
  rw [List.all_eq_false] at h
  obtain ⟨x, hx, h2⟩ := h
  obtain ⟨j, hj, e⟩ := List.getElem_of_mem hx
  exact ⟨j, hj, by rw [nth_eq (by rw [List.getElem?_eq_getElem hj, e]) ]; simpa using h2⟩
def nm_ann : Ann := { big := [20], fin := some 0, live := [(4, [0, 2, 13, 14, 15])], out := [(4, [0, 2])] }
@[simp] abbrev Wi_1 (v1_ : ByteArray) (v2_ : Nat) : Fr := (mkF 36 [(0, (AV.str v1_)), (2, (AV.bool false)), (13, (AV.str v1_)), (14, (AV.int .i64 ((v1_.size : Nat) : Int))), (15, (AV.int .i64 ((v2_ + 1 : Nat) : Int)))])
@[simp] abbrev Wi_2 (v1_ : ByteArray) (v2_ : Nat) : Fr := (mkF 36 [(0, (AV.str v1_)), (2, (AV.bool false)), (13, (AV.str v1_)), (14, (AV.int .i64 ((v1_.size : Nat) : Int))), (15, (AV.int .i64 ((v2_ : Nat) : Int)))])
set_option maxRecDepth 100000 in
theorem nm_step (tx : ByteArray) (i : Nat) (hs : tx.size < 100) (hi : i ≤ tx.size) {eX : Ex} {FX : Fr} {HX : Heap} (k1 : (decide (((i : Nat) : Int) < ((tx.size : Nat) : Int))) = true → (decide ((nth (strL tx) i) < 97)) = true → (decide ((nth (strL tx) i) < 48)) = true → ((.ret : Ex), (mkF 36 [(0, (.str tx)), (2, (.bool false))]), ([] : Heap)) = (eX, FX, HX)) (k2 : (decide (((i : Nat) : Int) < ((tx.size : Nat) : Int))) = true → (decide ((nth (strL tx) i) < 97)) = true → (decide ((nth (strL tx) i) < 48)) = false → (decide ((nth (strL tx) i) > 57)) = true → ((.ret : Ex), (mkF 36 [(0, (.str tx)), (2, (.bool false))]), ([] : Heap)) = (eX, FX, HX)) (k3 : (decide (((i : Nat) : Int) < ((tx.size : Nat) : Int))) = true → (decide ((nth (strL tx) i) < 97)) = true → (decide ((nth (strL tx) i) < 48)) = false → (decide ((nth (strL tx) i) > 57)) = false → LoopTo (codeQ Try.prog (X nm_ann) (loopOf Try.f124 0)) (some [0, 2, 13, 14, 15]) (some [0, 2]) (Wi_1 tx i) ([] : Heap) eX FX HX) (k4 : (decide (((i : Nat) : Int) < ((tx.size : Nat) : Int))) = true → (decide ((nth (strL tx) i) < 97)) = false → (decide ((nth (strL tx) i) > 122)) = true → (decide ((nth (strL tx) i) < 48)) = true → ((.ret : Ex), (mkF 36 [(0, (.str tx)), (2, (.bool false))]), ([] : Heap)) = (eX, FX, HX)) (k5 : (decide (((i : Nat) : Int) < ((tx.size : Nat) : Int))) = true → (decide ((nth (strL tx) i) < 97)) = false → (decide ((nth (strL tx) i) > 122)) = true → (decide ((nth (strL tx) i) < 48)) = false → (decide ((nth (strL tx) i) > 57)) = true → ((.ret : Ex), (mkF 36 [(0, (.str tx)), (2, (.bool false))]), ([] : Heap)) = (eX, FX, HX)) (k6 : (decide (((i : Nat) : Int) < ((tx.size : Nat) : Int))) = true → (decide ((nth (strL tx) i) < 97)) = false → (decide ((nth (strL tx) i) > 122)) = true → (decide ((nth (strL tx) i) < 48)) = false → (decide ((nth (strL tx) i) > 57)) = false → LoopTo (codeQ Try.prog (X nm_ann) (loopOf Try.f124 0)) (some [0, 2, 13, 14, 15]) (some [0, 2]) (Wi_1 tx i) ([] : Heap) eX FX HX) (k7 : (decide (((i : Nat) : Int) < ((tx.size : Nat) : Int))) = true → (decide ((nth (strL tx) i) < 97)) = false → (decide ((nth (strL tx) i) > 122)) = false → LoopTo (codeQ Try.prog (X nm_ann) (loopOf Try.f124 0)) (some [0, 2, 13, 14, 15]) (some [0, 2]) (Wi_1 tx i) ([] : Heap) eX FX HX) (k8 : (decide (((i : Nat) : Int) < ((tx.size : Nat) : Int))) = false → ((.exit 0 : Ex), (mkF 36 [(0, (.str tx)), (2, (.bool false))]), ([] : Heap)) = (eX, FX, HX)) : LoopTo (codeQ Try.prog (X nm_ann) (loopOf Try.f124 0)) (some [0, 2, 13, 14, 15]) (some [0, 2]) (Wi_2 tx i) ([] : Heap) eX FX HX :=
  stepO (.r (.g (.two (decide (((i : Nat) : Int) < ((tx.size : Nat) : Int))) (fun h1 h1' => (.r (.g (.r (.t 2 (AV.int .u8 (nth (strL tx) i)) ([] : Heap) (sat_index (xt := 9) (ts := { d := .string, size := 1, bytes := 16, zero := [.str ⟨#[]⟩] }) (i := ((i : Nat) : Int)) (n := i) ttOk kr kr kr rfl kr kr ow ow : Sat Try.prog (X nm_ann) (mkF 36 [(0, (AV.str tx)), (2, (AV.bool false)), (3, (AV.int .i64 ((i : Nat) : Int))), (13, (AV.str tx)), (14, (AV.int .i64 ((tx.size : Nat) : Int))), (15, (AV.int .i64 ((i : Nat) : Int))), (16, (AV.bool (decide (((i : Nat) : Int) < ((tx.size : Nat) : Int))))), (17, (AV.int .i64 ((i : Nat) : Int))), (18, (AV.str tx)), (19, (AV.int .i64 ((i : Nat) : Int)))]) ([] : Heap) 0 (opIn Try.f124 6 2) (AV.int .u8 (nth (strL tx) i)) ([] : Heap)) (.g (.r (.two (decide ((nth (strL tx) i) < 97)) (fun h2 h2' => (.yes (.yes (.yes (.yes (.two (decide ((nth (strL tx) i) < 48)) (fun h3 h3' => (.yes (.yes (.g (.yes (.r (.g (.l (k1 h1 h2 h3))))))))) (fun h3 h3' => (.no (.yes (.g (.two (decide ((nth (strL tx) i) > 57)) (fun h4 h4' => (.r (.g (.l (k2 h1 h2 h3 h4))))) (fun h4 h4' => (.r (.y 0 (.int .i64 (IntKind.i64.wrap (((i : Nat) : Int) + 1))) (AV.int .i64 ((i + 1 : Nat) : Int)) (Yes.add ow ow ow) (.g (.l (k3 h1 h2 h3 h4))))))))))))))))) (fun h2 h2' => (.no (.two (decide ((nth (strL tx) i) > 122)) (fun h3 h3' => (.yes (.yes (.two (decide ((nth (strL tx) i) < 48)) (fun h4 h4' => (.yes (.yes (.g (.yes (.r (.g (.l (k4 h1 h2 h3 h4))))))))) (fun h4 h4' => (.no (.yes (.g (.two (decide ((nth (strL tx) i) > 57)) (fun h5 h5' => (.r (.g (.l (k5 h1 h2 h3 h4 h5))))) (fun h5 h5' => (.r (.y 0 (.int .i64 (IntKind.i64.wrap (((i : Nat) : Int) + 1))) (AV.int .i64 ((i + 1 : Nat) : Int)) (Yes.add ow ow ow) (.g (.l (k6 h1 h2 h3 h4 h5))))))))))))))) (fun h3 h3' => (.no (.no (.no (.g (.no (.r (.y 0 (.int .i64 (IntKind.i64.wrap (((i : Nat) : Int) + 1))) (AV.int .i64 ((i + 1 : Nat) : Int)) (Yes.add ow ow ow) (.g (.l (k7 h1 h2 h3)))))))))))))))))))))) (fun h1 h1' => (.l (k8 h1))))))
theorem nm_good (tx : ByteArray) (hs : tx.size < 100) (r : Nat) : ∀ (i : Nat), i + r = tx.size → (∀ j, i ≤ j → j < tx.size → charOk (nth (strL tx) j) = true) →
    LoopTo (codeQ Try.prog (X nm_ann) (loopOf Try.f124 0)) (some [0, 2, 13, 14, 15]) (some [0, 2]) (Wi_2 tx i) ([] : Heap) (.exit 0) (mkF 36 [(0, (.str tx)), (2, (.bool false))]) ([] : Heap) := by
  induction r with
  | zero =>
    intro i hi hall
    refine nm_step tx i hs ow (fun h1 h2 h3 => absurd h1 (by simp; omega)) (fun h1 h2 h3 h4 => absurd h1 (by simp; omega)) (fun h1 h2 h3 h4 => absurd h1 (by simp; omega)) (fun h1 h2 h3 h4 => absurd h1 (by simp; omega)) (fun h1 h2 h3 h4 h5 => absurd h1 (by simp; omega)) (fun h1 h2 h3 h4 h5 => absurd h1 (by simp; omega)) (fun h1 h2 h3 => absurd h1 (by simp; omega)) (fun h1 => rfl)
  | succ r ih =>
    intro i hi hall
    refine nm_step tx i hs ow (fun h1 h2 h3 => absurd (hall i (Nat.le_refl _) ow) (by rw [(show charOk (nth (strL tx) i) = false by simp only [decide_eq_true_eq, decide_eq_false_iff_not] at h1 h2 h3; simp [charOk]; omega)]; simp)) (fun h1 h2 h3 h4 => absurd (hall i (Nat.le_refl _) ow) (by rw [(show charOk (nth (strL tx) i) = false by simp only [decide_eq_true_eq, decide_eq_false_iff_not] at h1 h2 h3 h4; simp [charOk]; omega)]; simp)) (fun h1 h2 h3 h4 => ih (i + 1) ow (fun j hj hj2 => hall j ow hj2)) (fun h1 h2 h3 h4 => absurd (hall i (Nat.le_refl _) ow) (by rw [(show charOk (nth (strL tx) i) = false by simp only [decide_eq_true_eq, decide_eq_false_iff_not] at h1 h2 h3 h4; simp [charOk]; omega)]; simp)) (fun h1 h2 h3 h4 h5 => absurd (hall i (Nat.le_refl _) ow) (by rw [(show charOk (nth (strL tx) i) = false by simp only [decide_eq_true_eq, decide_eq_false_iff_not] at h1 h2 h3 h4 h5; simp [charOk]; omega)]; simp)) (fun h1 h2 h3 h4 h5 => ih (i + 1) ow (fun j hj hj2 => hall j ow hj2)) (fun h1 h2 h3 => ih (i + 1) ow (fun j hj hj2 => hall j ow hj2)) (fun h1 => absurd h1 (by simp; omega))
theorem nm_bad (tx : ByteArray) (hs : tx.size < 100) (r : Nat) : ∀ (i : Nat), i + r = tx.size → (∃ j, i ≤ j ∧ j < tx.size ∧ charOk (nth (strL tx) j) = false) →
    LoopTo (codeQ Try.prog (X nm_ann) (loopOf Try.f124 0)) (some [0, 2, 13, 14, 15]) (some [0, 2]) (Wi_2 tx i) ([] : Heap) (.ret) (mkF 36 [(0, (.str tx)), (2, (.bool false))]) ([] : Heap) := by
  induction r with
  | zero =>
    intro i hi hex
    obtain ⟨j, hj1, hj2, _⟩ := hex
    omega
  | succ r ih =>
    intro i hi hex
    refine nm_step tx i hs ow (fun h1 h2 h3 => rfl) (fun h1 h2 h3 h4 => rfl) (fun h1 h2 h3 h4 => (by
      obtain ⟨j, hj1, hj2, hj3⟩ := hex
      have hne : j ≠ i := fun e => by rw [e, (show charOk (nth (strL tx) i) = true by simp only [decide_eq_true_eq, decide_eq_false_iff_not] at h1 h2 h3 h4; simp [charOk]; omega)] at hj3; simp at hj3
      exact ih (i + 1) ow ⟨j, by omega, hj2, hj3⟩)) (fun h1 h2 h3 h4 => rfl) (fun h1 h2 h3 h4 h5 => rfl) (fun h1 h2 h3 h4 h5 => (by
      obtain ⟨j, hj1, hj2, hj3⟩ := hex
      have hne : j ≠ i := fun e => by rw [e, (show charOk (nth (strL tx) i) = true by simp only [decide_eq_true_eq, decide_eq_false_iff_not] at h1 h2 h3 h4 h5; simp [charOk]; omega)] at hj3; simp at hj3
      exact ih (i + 1) ow ⟨j, by omega, hj2, hj3⟩)) (fun h1 h2 h3 => (by
      obtain ⟨j, hj1, hj2, hj3⟩ := hex
      have hne : j ≠ i := fun e => by rw [e, (show charOk (nth (strL tx) i) = true by simp only [decide_eq_true_eq, decide_eq_false_iff_not] at h1 h2 h3; simp [charOk]; omega)] at hj3; simp at hj3
      exact ih (i + 1) ow ⟨j, by omega, hj2, hj3⟩)) (fun h1 => absurd h1 (by simp; omega))
@[simp] abbrev Wi_3 (v1_ : ByteArray) : Fr := (mkF 36 [(0, (AV.str v1_)), (2, (AV.bool false)), (13, (AV.str v1_)), (14, (AV.int .i64 ((v1_.size : Nat) : Int))), (15, (AV.int .i64 0))])
set_option maxRecDepth 100000 in
theorem nameT_spec (tx : ByteArray) (hb : nameB tx = true) : ACalls Try.prog 124 [(.str tx)] ([] : Heap) ((AV.bool true), ([] : Heap)) := by
  have hB := hb
  simp only [nameB, Bool.and_eq_true, decide_eq_true_eq] at hB
  obtain ⟨q1, q2, q3⟩ := hB
  have hs : tx.size < 100 := by omega
  exact specO (fn := Try.f124) (ann := nm_ann) (Has.o Try.func124) (.r (.g (.r (.y 2 (AV.bool (((tx.size : Nat) : Int) == 0)) (AV.bool false) (Yes.bool (beq_eq_false_iff_ne.2 ow)) (.no (.no (.no (.y 6 (AV.bool (decide (((tx.size : Nat) : Int) > 16))) (AV.bool false) (Yes.bool (by simp; omega)) (.g (.no (.r (.g (.loop (mkF 36 [(0, (.str tx)), (2, (.bool false))]) (show LoopTo (codeQ Try.prog (X nm_ann) (loopOf Try.f124 0)) (some [0, 2, 13, 14, 15]) (some [0, 2]) (Wi_3 tx) ([] : Heap) (.exit 0) (mkF 36 [(0, (.str tx)), (2, (.bool false))]) ([] : Heap) from (nm_good tx hs tx.size 0 ow (fun j hj hj2 => all_nth q3 (by rw [strL_len]; exact hj2)))) (.r (.g (.f 0 (AV.bool true) (.e (AV.bool true))))))))))))))))))
set_option maxRecDepth 100000 in
theorem nameF_spec (tx : ByteArray) (hb : nameB tx = false) : ACalls Try.prog 124 [(.str tx)] ([] : Heap) ((AV.bool false), ([] : Heap)) :=
  specO (fn := Try.f124) (ann := nm_ann) (Has.o Try.func124) (.r (.g (.r (.two (((tx.size : Nat) : Int) == 0) (fun h1 h1' => (.yes (.yes (.g (.yes (.r (.g (.f 0 (AV.bool false) (.e (AV.bool false)))))))))) (fun h1 h1' => (.no (.no (.g (.two (decide (((tx.size : Nat) : Int) > 16)) (fun h2 h2' => (.r (.g (.f 0 (AV.bool false) (.e (AV.bool false)))))) (fun h2 h2' => (.r (.g (.loop (mkF 36 [(0, (.str tx)), (2, (.bool false))]) (show LoopTo (codeQ Try.prog (X nm_ann) (loopOf Try.f124 0)) (some [0, 2, 13, 14, 15]) (some [0, 2]) (Wi_3 tx) ([] : Heap) (.ret) (mkF 36 [(0, (.str tx)), (2, (.bool false))]) ([] : Heap) from (nm_bad tx (by have q := h1'; have q2 := h2'; omega) tx.size 0 ow (by
        have q := h1'; have q2 := h2'
        have h3 : (strL tx).all charOk = false := by
          cases h4 : (strL tx).all charOk with
          | false => rfl
          | true =>
            have h5 : nameB tx = true := by simp only [nameB, Bool.and_eq_true, decide_eq_true_eq]; exact ⟨by omega, by omega, h4⟩
            rw [h5] at hb; simp at hb
        obtain ⟨j, hj, hj2⟩ := all_no h3
        exact ⟨j, Nat.zero_le _, by rw [strL_len] at hj; exact hj, hj2⟩))) (.f 0 (AV.bool false) (.e (AV.bool false))))))))))))))))
theorem name_spec (tx : ByteArray)  : ACalls Try.prog 124 [(.str tx)] ([] : Heap) ((AV.bool (nameB tx)), ([] : Heap)) := by
  cases hb : nameB tx with
  | true => exact nameT_spec tx hb
  | false => exact nameF_spec tx hb
theorem name_at (tx : ByteArray)  (H : Heap) : ACalls Try.prog 124 [(.str tx)] H ((AV.bool (nameB tx)), H) := (name_spec tx ).lift kr kr H
def rnm_ann : Ann := { big := [12, 17, 23, 28], fin := some 0, live := [(2, [0, 2, 3])], out := [(2, [0, 2])] }
@[simp] abbrev Wi_4 (v1_ : ByteArray) (v2_ : Nat) : Fr := (mkF 40 [(0, (AV.str v1_)), (2, (AV.bool false)), (3, (AV.int .i64 ((v2_ + 1 : Nat) : Int)))])
@[simp] abbrev Wi_5 (v1_ : ByteArray) (v2_ : Nat) : Fr := (mkF 40 [(0, (AV.str v1_)), (2, (AV.bool false)), (3, (AV.int .i64 ((v2_ : Nat) : Int)))])
set_option maxRecDepth 100000 in
theorem rnm_step (tx : ByteArray) (i : Nat) (hs : tx.size < 9223372036854775807) (hi : i ≤ tx.size) {eX : Ex} {FX : Fr} {HX : Heap} (k1 : (decide (((i : Nat) : Int) < ((tx.size : Nat) : Int))) = true → (decide ((nth (strL tx) i) < 97)) = true → (decide ((nth (strL tx) i) < 48)) = true → ((.ret : Ex), (mkF 40 [(0, (.str tx)), (2, (.bool false))]), ([] : Heap)) = (eX, FX, HX)) (k2 : (decide (((i : Nat) : Int) < ((tx.size : Nat) : Int))) = true → (decide ((nth (strL tx) i) < 97)) = true → (decide ((nth (strL tx) i) < 48)) = false → (decide ((nth (strL tx) i) > 57)) = true → ((.ret : Ex), (mkF 40 [(0, (.str tx)), (2, (.bool false))]), ([] : Heap)) = (eX, FX, HX)) (k3 : (decide (((i : Nat) : Int) < ((tx.size : Nat) : Int))) = true → (decide ((nth (strL tx) i) < 97)) = true → (decide ((nth (strL tx) i) < 48)) = false → (decide ((nth (strL tx) i) > 57)) = false → LoopTo (codeQ Try.prog (X rnm_ann) (loopOf Try.f147 0)) (some [0, 2, 3]) (some [0, 2]) (Wi_4 tx i) ([] : Heap) eX FX HX) (k4 : (decide (((i : Nat) : Int) < ((tx.size : Nat) : Int))) = true → (decide ((nth (strL tx) i) < 97)) = false → (decide ((nth (strL tx) i) > 122)) = true → (decide ((nth (strL tx) i) < 48)) = true → ((.ret : Ex), (mkF 40 [(0, (.str tx)), (2, (.bool false))]), ([] : Heap)) = (eX, FX, HX)) (k5 : (decide (((i : Nat) : Int) < ((tx.size : Nat) : Int))) = true → (decide ((nth (strL tx) i) < 97)) = false → (decide ((nth (strL tx) i) > 122)) = true → (decide ((nth (strL tx) i) < 48)) = false → (decide ((nth (strL tx) i) > 57)) = true → ((.ret : Ex), (mkF 40 [(0, (.str tx)), (2, (.bool false))]), ([] : Heap)) = (eX, FX, HX)) (k6 : (decide (((i : Nat) : Int) < ((tx.size : Nat) : Int))) = true → (decide ((nth (strL tx) i) < 97)) = false → (decide ((nth (strL tx) i) > 122)) = true → (decide ((nth (strL tx) i) < 48)) = false → (decide ((nth (strL tx) i) > 57)) = false → LoopTo (codeQ Try.prog (X rnm_ann) (loopOf Try.f147 0)) (some [0, 2, 3]) (some [0, 2]) (Wi_4 tx i) ([] : Heap) eX FX HX) (k7 : (decide (((i : Nat) : Int) < ((tx.size : Nat) : Int))) = true → (decide ((nth (strL tx) i) < 97)) = false → (decide ((nth (strL tx) i) > 122)) = false → LoopTo (codeQ Try.prog (X rnm_ann) (loopOf Try.f147 0)) (some [0, 2, 3]) (some [0, 2]) (Wi_4 tx i) ([] : Heap) eX FX HX) (k8 : (decide (((i : Nat) : Int) < ((tx.size : Nat) : Int))) = false → ((.exit 0 : Ex), (mkF 40 [(0, (.str tx)), (2, (.bool false))]), ([] : Heap)) = (eX, FX, HX)) : LoopTo (codeQ Try.prog (X rnm_ann) (loopOf Try.f147 0)) (some [0, 2, 3]) (some [0, 2]) (Wi_5 tx i) ([] : Heap) eX FX HX :=
  stepO (.r (.g (.two (decide (((i : Nat) : Int) < ((tx.size : Nat) : Int))) (fun h1 h1' => (.r (.t 2 (AV.int .u8 (nth (strL tx) i)) ([] : Heap) (sat_index (xt := 9) (ts := { d := .string, size := 1, bytes := 16, zero := [.str ⟨#[]⟩] }) (i := ((i : Nat) : Int)) (n := i) ttOk kr kr kr rfl kr kr ow ow : Sat Try.prog (X rnm_ann) (mkF 40 [(0, (AV.str tx)), (2, (AV.bool false)), (3, (AV.int .i64 ((i : Nat) : Int))), (4, (AV.int .i64 ((i : Nat) : Int))), (5, (AV.str tx)), (6, (AV.int .i64 ((tx.size : Nat) : Int))), (7, (AV.bool (decide (((i : Nat) : Int) < ((tx.size : Nat) : Int))))), (10, (AV.str tx)), (11, (AV.int .i64 ((i : Nat) : Int)))]) ([] : Heap) 0 (opIn Try.f147 4 2) (AV.int .u8 (nth (strL tx) i)) ([] : Heap)) (.two (decide ((nth (strL tx) i) < 97)) (fun h2 h2' => (.yes (.yes (.yes (.yes (.yes (.yes (.t 13 (AV.int .u8 (nth (strL tx) i)) ([] : Heap) (sat_index (xt := 9) (ts := { d := .string, size := 1, bytes := 16, zero := [.str ⟨#[]⟩] }) (i := ((i : Nat) : Int)) (n := i) ttOk kr kr kr rfl kr kr ow ow : Sat Try.prog (X rnm_ann) (mkF 40 [(0, (AV.str tx)), (2, (AV.bool false)), (3, (AV.int .i64 ((i : Nat) : Int))), (4, (AV.int .i64 ((i : Nat) : Int))), (5, (AV.str tx)), (6, (AV.int .i64 ((tx.size : Nat) : Int))), (7, (AV.bool (decide (((i : Nat) : Int) < ((tx.size : Nat) : Int))))), (10, (AV.str tx)), (11, (AV.int .i64 ((i : Nat) : Int))), (12, (AV.int .u8 (nth (strL tx) i))), (13, (AV.bool (decide ((nth (strL tx) i) < 97)))), (14, (AV.bool true)), (15, AV.skip), (16, AV.skip), (17, AV.skip), (18, AV.skip), (19, (AV.bool true)), (20, (AV.bool true)), (21, (AV.str tx)), (22, (AV.int .i64 ((i : Nat) : Int)))]) ([] : Heap) 0 (opIn Try.f147 4 13) (AV.int .u8 (nth (strL tx) i)) ([] : Heap)) (.yes (.yes (.two (decide ((nth (strL tx) i) < 48)) (fun h3 h3' => (.yes (.yes (.yes (.yes (.g (.yes (.r (.g (.l (k1 h1 h2 h3))))))))))) (fun h3 h3' => (.no (.no (.t 18 (AV.int .u8 (nth (strL tx) i)) ([] : Heap) (sat_index (xt := 9) (ts := { d := .string, size := 1, bytes := 16, zero := [.str ⟨#[]⟩] }) (i := ((i : Nat) : Int)) (n := i) ttOk kr kr kr rfl kr kr ow ow : Sat Try.prog (X rnm_ann) (mkF 40 [(0, (AV.str tx)), (2, (AV.bool false)), (3, (AV.int .i64 ((i : Nat) : Int))), (4, (AV.int .i64 ((i : Nat) : Int))), (5, (AV.str tx)), (6, (AV.int .i64 ((tx.size : Nat) : Int))), (7, (AV.bool (decide (((i : Nat) : Int) < ((tx.size : Nat) : Int))))), (10, (AV.str tx)), (11, (AV.int .i64 ((i : Nat) : Int))), (12, (AV.int .u8 (nth (strL tx) i))), (13, (AV.bool (decide ((nth (strL tx) i) < 97)))), (14, (AV.bool true)), (15, AV.skip), (16, AV.skip), (17, AV.skip), (18, AV.skip), (19, (AV.bool true)), (20, (AV.bool true)), (21, (AV.str tx)), (22, (AV.int .i64 ((i : Nat) : Int))), (23, (AV.int .u8 (nth (strL tx) i))), (24, (AV.bool (decide ((nth (strL tx) i) < 48)))), (25, (AV.bool false)), (26, (AV.str tx)), (27, (AV.int .i64 ((i : Nat) : Int)))]) ([] : Heap) 0 (opIn Try.f147 4 18) (AV.int .u8 (nth (strL tx) i)) ([] : Heap)) (.no (.yes (.g (.two (decide ((nth (strL tx) i) > 57)) (fun h4 h4' => (.r (.g (.l (k2 h1 h2 h3 h4))))) (fun h4 h4' => (.r (.y 1 (.int .i64 (IntKind.i64.wrap (((i : Nat) : Int) + 1))) (AV.int .i64 ((i + 1 : Nat) : Int)) (Yes.add ow ow ow) (.g (.l (k3 h1 h2 h3 h4))))))))))))))))))))))))) (fun h2 h2' => (.no (.no (.t 7 (AV.int .u8 (nth (strL tx) i)) ([] : Heap) (sat_index (xt := 9) (ts := { d := .string, size := 1, bytes := 16, zero := [.str ⟨#[]⟩] }) (i := ((i : Nat) : Int)) (n := i) ttOk kr kr kr rfl kr kr ow ow : Sat Try.prog (X rnm_ann) (mkF 40 [(0, (AV.str tx)), (2, (AV.bool false)), (3, (AV.int .i64 ((i : Nat) : Int))), (4, (AV.int .i64 ((i : Nat) : Int))), (5, (AV.str tx)), (6, (AV.int .i64 ((tx.size : Nat) : Int))), (7, (AV.bool (decide (((i : Nat) : Int) < ((tx.size : Nat) : Int))))), (10, (AV.str tx)), (11, (AV.int .i64 ((i : Nat) : Int))), (12, (AV.int .u8 (nth (strL tx) i))), (13, (AV.bool (decide ((nth (strL tx) i) < 97)))), (14, (AV.bool false)), (15, (AV.str tx)), (16, (AV.int .i64 ((i : Nat) : Int)))]) ([] : Heap) 0 (opIn Try.f147 4 7) (AV.int .u8 (nth (strL tx) i)) ([] : Heap)) (.no (.two (decide ((nth (strL tx) i) > 122)) (fun h3 h3' => (.yes (.yes (.t 13 (AV.int .u8 (nth (strL tx) i)) ([] : Heap) (sat_index (xt := 9) (ts := { d := .string, size := 1, bytes := 16, zero := [.str ⟨#[]⟩] }) (i := ((i : Nat) : Int)) (n := i) ttOk kr kr kr rfl kr kr ow ow : Sat Try.prog (X rnm_ann) (mkF 40 [(0, (AV.str tx)), (2, (AV.bool false)), (3, (AV.int .i64 ((i : Nat) : Int))), (4, (AV.int .i64 ((i : Nat) : Int))), (5, (AV.str tx)), (6, (AV.int .i64 ((tx.size : Nat) : Int))), (7, (AV.bool (decide (((i : Nat) : Int) < ((tx.size : Nat) : Int))))), (10, (AV.str tx)), (11, (AV.int .i64 ((i : Nat) : Int))), (12, (AV.int .u8 (nth (strL tx) i))), (13, (AV.bool (decide ((nth (strL tx) i) < 97)))), (14, (AV.bool false)), (15, (AV.str tx)), (16, (AV.int .i64 ((i : Nat) : Int))), (17, (AV.int .u8 (nth (strL tx) i))), (18, (AV.bool (decide ((nth (strL tx) i) > 122)))), (19, (AV.bool (decide ((nth (strL tx) i) > 122)))), (20, (AV.bool true)), (21, (AV.str tx)), (22, (AV.int .i64 ((i : Nat) : Int)))]) ([] : Heap) 0 (opIn Try.f147 4 13) (AV.int .u8 (nth (strL tx) i)) ([] : Heap)) (.yes (.yes (.two (decide ((nth (strL tx) i) < 48)) (fun h4 h4' => (.yes (.yes (.yes (.yes (.g (.yes (.r (.g (.l (k4 h1 h2 h3 h4))))))))))) (fun h4 h4' => (.no (.no (.t 18 (AV.int .u8 (nth (strL tx) i)) ([] : Heap) (sat_index (xt := 9) (ts := { d := .string, size := 1, bytes := 16, zero := [.str ⟨#[]⟩] }) (i := ((i : Nat) : Int)) (n := i) ttOk kr kr kr rfl kr kr ow ow : Sat Try.prog (X rnm_ann) (mkF 40 [(0, (AV.str tx)), (2, (AV.bool false)), (3, (AV.int .i64 ((i : Nat) : Int))), (4, (AV.int .i64 ((i : Nat) : Int))), (5, (AV.str tx)), (6, (AV.int .i64 ((tx.size : Nat) : Int))), (7, (AV.bool (decide (((i : Nat) : Int) < ((tx.size : Nat) : Int))))), (10, (AV.str tx)), (11, (AV.int .i64 ((i : Nat) : Int))), (12, (AV.int .u8 (nth (strL tx) i))), (13, (AV.bool (decide ((nth (strL tx) i) < 97)))), (14, (AV.bool false)), (15, (AV.str tx)), (16, (AV.int .i64 ((i : Nat) : Int))), (17, (AV.int .u8 (nth (strL tx) i))), (18, (AV.bool (decide ((nth (strL tx) i) > 122)))), (19, (AV.bool (decide ((nth (strL tx) i) > 122)))), (20, (AV.bool true)), (21, (AV.str tx)), (22, (AV.int .i64 ((i : Nat) : Int))), (23, (AV.int .u8 (nth (strL tx) i))), (24, (AV.bool (decide ((nth (strL tx) i) < 48)))), (25, (AV.bool false)), (26, (AV.str tx)), (27, (AV.int .i64 ((i : Nat) : Int)))]) ([] : Heap) 0 (opIn Try.f147 4 18) (AV.int .u8 (nth (strL tx) i)) ([] : Heap)) (.no (.yes (.g (.two (decide ((nth (strL tx) i) > 57)) (fun h5 h5' => (.r (.g (.l (k5 h1 h2 h3 h4 h5))))) (fun h5 h5' => (.r (.y 1 (.int .i64 (IntKind.i64.wrap (((i : Nat) : Int) + 1))) (AV.int .i64 ((i + 1 : Nat) : Int)) (Yes.add ow ow ow) (.g (.l (k6 h1 h2 h3 h4 h5))))))))))))))))))))) (fun h3 h3' => (.no (.no (.no (.no (.no (.g (.no (.r (.y 1 (.int .i64 (IntKind.i64.wrap (((i : Nat) : Int) + 1))) (AV.int .i64 ((i + 1 : Nat) : Int)) (Yes.add ow ow ow) (.g (.l (k7 h1 h2 h3))))))))))))))))))))))) (fun h1 h1' => (.l (k8 h1))))))
theorem rnm_good (tx : ByteArray) (hs : tx.size < 9223372036854775807) (r : Nat) : ∀ (i : Nat), i + r = tx.size → (∀ j, i ≤ j → j < tx.size → charOk (nth (strL tx) j) = true) →
    LoopTo (codeQ Try.prog (X rnm_ann) (loopOf Try.f147 0)) (some [0, 2, 3]) (some [0, 2]) (Wi_5 tx i) ([] : Heap) (.exit 0) (mkF 40 [(0, (.str tx)), (2, (.bool false))]) ([] : Heap) := by
  induction r with
  | zero =>
    intro i hi hall
    refine rnm_step tx i hs ow (fun h1 h2 h3 => absurd h1 (by simp; omega)) (fun h1 h2 h3 h4 => absurd h1 (by simp; omega)) (fun h1 h2 h3 h4 => absurd h1 (by simp; omega)) (fun h1 h2 h3 h4 => absurd h1 (by simp; omega)) (fun h1 h2 h3 h4 h5 => absurd h1 (by simp; omega)) (fun h1 h2 h3 h4 h5 => absurd h1 (by simp; omega)) (fun h1 h2 h3 => absurd h1 (by simp; omega)) (fun h1 => rfl)
  | succ r ih =>
    intro i hi hall
    refine rnm_step tx i hs ow (fun h1 h2 h3 => absurd (hall i (Nat.le_refl _) ow) (by rw [(show charOk (nth (strL tx) i) = false by simp only [decide_eq_true_eq, decide_eq_false_iff_not] at h1 h2 h3; simp [charOk]; omega)]; simp)) (fun h1 h2 h3 h4 => absurd (hall i (Nat.le_refl _) ow) (by rw [(show charOk (nth (strL tx) i) = false by simp only [decide_eq_true_eq, decide_eq_false_iff_not] at h1 h2 h3 h4; simp [charOk]; omega)]; simp)) (fun h1 h2 h3 h4 => ih (i + 1) ow (fun j hj hj2 => hall j ow hj2)) (fun h1 h2 h3 h4 => absurd (hall i (Nat.le_refl _) ow) (by rw [(show charOk (nth (strL tx) i) = false by simp only [decide_eq_true_eq, decide_eq_false_iff_not] at h1 h2 h3 h4; simp [charOk]; omega)]; simp)) (fun h1 h2 h3 h4 h5 => absurd (hall i (Nat.le_refl _) ow) (by rw [(show charOk (nth (strL tx) i) = false by simp only [decide_eq_true_eq, decide_eq_false_iff_not] at h1 h2 h3 h4 h5; simp [charOk]; omega)]; simp)) (fun h1 h2 h3 h4 h5 => ih (i + 1) ow (fun j hj hj2 => hall j ow hj2)) (fun h1 h2 h3 => ih (i + 1) ow (fun j hj hj2 => hall j ow hj2)) (fun h1 => absurd h1 (by simp; omega))
theorem rnm_bad (tx : ByteArray) (hs : tx.size < 9223372036854775807) (r : Nat) : ∀ (i : Nat), i + r = tx.size → (∃ j, i ≤ j ∧ j < tx.size ∧ charOk (nth (strL tx) j) = false) →
    LoopTo (codeQ Try.prog (X rnm_ann) (loopOf Try.f147 0)) (some [0, 2, 3]) (some [0, 2]) (Wi_5 tx i) ([] : Heap) (.ret) (mkF 40 [(0, (.str tx)), (2, (.bool false))]) ([] : Heap) := by
  induction r with
  | zero =>
    intro i hi hex
    obtain ⟨j, hj1, hj2, _⟩ := hex
    omega
  | succ r ih =>
    intro i hi hex
    refine rnm_step tx i hs ow (fun h1 h2 h3 => rfl) (fun h1 h2 h3 h4 => rfl) (fun h1 h2 h3 h4 => (by
      obtain ⟨j, hj1, hj2, hj3⟩ := hex
      have hne : j ≠ i := fun e => by rw [e, (show charOk (nth (strL tx) i) = true by simp only [decide_eq_true_eq, decide_eq_false_iff_not] at h1 h2 h3 h4; simp [charOk]; omega)] at hj3; simp at hj3
      exact ih (i + 1) ow ⟨j, by omega, hj2, hj3⟩)) (fun h1 h2 h3 h4 => rfl) (fun h1 h2 h3 h4 h5 => rfl) (fun h1 h2 h3 h4 h5 => (by
      obtain ⟨j, hj1, hj2, hj3⟩ := hex
      have hne : j ≠ i := fun e => by rw [e, (show charOk (nth (strL tx) i) = true by simp only [decide_eq_true_eq, decide_eq_false_iff_not] at h1 h2 h3 h4 h5; simp [charOk]; omega)] at hj3; simp at hj3
      exact ih (i + 1) ow ⟨j, by omega, hj2, hj3⟩)) (fun h1 h2 h3 => (by
      obtain ⟨j, hj1, hj2, hj3⟩ := hex
      have hne : j ≠ i := fun e => by rw [e, (show charOk (nth (strL tx) i) = true by simp only [decide_eq_true_eq, decide_eq_false_iff_not] at h1 h2 h3; simp [charOk]; omega)] at hj3; simp at hj3
      exact ih (i + 1) ow ⟨j, by omega, hj2, hj3⟩)) (fun h1 => absurd h1 (by simp; omega))
@[simp] abbrev Wi_6 (v1_ : ByteArray) : Fr := (mkF 40 [(0, (AV.str v1_)), (2, (AV.bool false)), (3, (AV.int .i64 0))])
set_option maxRecDepth 100000 in
theorem rnameT_spec (tx : ByteArray) (hs : tx.size < 9223372036854775807) (hb : (strL tx).all charOk = true) : ACalls Try.prog 147 [(.str tx)] ([] : Heap) ((AV.bool (nameB tx)), ([] : Heap)) :=
  specO (fn := Try.f147) (ann := rnm_ann) (Has.o Try.func147) (.r (.g (.r (.g (.loop (mkF 40 [(0, (.str tx)), (2, (.bool false))]) (show LoopTo (codeQ Try.prog (X rnm_ann) (loopOf Try.f147 0)) (some [0, 2, 3]) (some [0, 2]) (Wi_6 tx) ([] : Heap) (.exit 0) (mkF 40 [(0, (.str tx)), (2, (.bool false))]) ([] : Heap) from (rnm_good tx hs tx.size 0 ow (fun j hj hj2 => all_nth hb (by rw [strL_len]; exact hj2)))) (.r (.two (decide (((tx.size : Nat) : Int) ≥ 1)) (fun h1 h1' => (.yes (.yes (.g (.f 0 (AV.bool (decide (((tx.size : Nat) : Int) ≤ 16))) (.e (AV.bool (decide (((tx.size : Nat) : Int) ≤ 16))) (by
        have e : nameB tx = (decide (0 < tx.size) && (decide (tx.size ≤ 16) && true)) := by unfold nameB; rw [hb]
        rw [e]
        congr 2
        rw [Bool.eq_iff_iff]
        simp only [Bool.and_eq_true, decide_eq_true_eq, Bool.false_eq_true, and_true, false_iff]
        omega))))))) (fun h1 h1' => (.no (.no (.g (.f 0 (AV.bool false) (.e (AV.bool false) (by
        have e : nameB tx = (decide (0 < tx.size) && (decide (tx.size ≤ 16) && true)) := by unfold nameB; rw [hb]
        rw [e]
        congr 2
        rw [Bool.eq_iff_iff]
        simp only [Bool.and_eq_true, decide_eq_true_eq, Bool.false_eq_true, and_true, false_iff]
        omega))))))))))))))
set_option maxRecDepth 100000 in
theorem rnameF_spec (tx : ByteArray) (hs : tx.size < 9223372036854775807) (hb : (strL tx).all charOk = false) : ACalls Try.prog 147 [(.str tx)] ([] : Heap) ((AV.bool (nameB tx)), ([] : Heap)) :=
  specO (fn := Try.f147) (ann := rnm_ann) (Has.o Try.func147) (.r (.g (.r (.g (.loop (mkF 40 [(0, (.str tx)), (2, (.bool false))]) (show LoopTo (codeQ Try.prog (X rnm_ann) (loopOf Try.f147 0)) (some [0, 2, 3]) (some [0, 2]) (Wi_6 tx) ([] : Heap) (.ret) (mkF 40 [(0, (.str tx)), (2, (.bool false))]) ([] : Heap) from (rnm_bad tx hs tx.size 0 ow (by
        obtain ⟨j, hj, hj2⟩ := all_no hb
        exact ⟨j, Nat.zero_le _, by rw [strL_len] at hj; exact hj, hj2⟩))) (.f 0 (AV.bool false) (.e (AV.bool false) (by
        unfold nameB; rw [hb]; simp))))))))
theorem rname_spec (tx : ByteArray) (hs : tx.size < 9223372036854775807) : ACalls Try.prog 147 [(.str tx)] ([] : Heap) ((AV.bool (nameB tx)), ([] : Heap)) := by
  cases hb : (strL tx).all charOk with
  | true => exact rnameT_spec tx hs hb
  | false => exact rnameF_spec tx hs hb
theorem rname_at (tx : ByteArray) (hs : tx.size < 9223372036854775807) (H : Heap) : ACalls Try.prog 147 [(.str tx)] H ((AV.bool (nameB tx)), H) := (rname_spec tx hs).lift kr kr H
def cardR (c : Card) : Bool := nameB c.key.app && (nameB c.key.id && ((decide (c.status = 1) || decide (c.status = 2)) && ((decide (0 ≤ c.over) && decide (c.over ≤ 3)) && ((decide (1 ≤ c.lease) && decide (c.lease ≤ 1048576)) && stR c.stamp))))
attribute [local irreducible] nameB stR
def cright_ann : Ann := { refs := [1], fin := some 0 }
set_option maxRecDepth 100000 in
theorem cright_spec (c : Card)  : ACalls Try.prog 72 [(.agg (Card.row c))] ([] : Heap) ((AV.bool (cardR c)), ([] : Heap)) :=
  specO (fn := Try.f72) (ann := cright_ann) (Has.o Try.func72) (.r (.g (.r (.c 3 (name_at c.key.app  ([] : Heap)) (.two (!(nameB c.key.app)) (fun h1 h1' => (.yes (.yes (.yes (.yes (.g (.yes (.r (.g (.f 0 (AV.bool false) (.e (AV.bool false) (by
        simp only [cardR]
        simp_all <;> omega)))))))))))) (fun h1 h1' => (.no (.no (.no (.c 9 (name_at c.key.id  ([] : Heap)) (.no (.g (.two (!(nameB c.key.id)) (fun h2 h2' => (.r (.g (.f 0 (AV.bool false) (.e (AV.bool false) (by
        simp only [cardR]
        simp_all <;> omega)))))) (fun h2 h2' => (.r (.two (c.status != 1) (fun h3 h3' => (.yes (.yes (.g (.two (c.status != 2) (fun h4 h4' => (.r (.g (.f 0 (AV.bool false) (.e (AV.bool false) (by
        simp only [cardR]
        simp_all <;> omega)))))) (fun h4 h4' => (.r (.two (decide (c.over < 0)) (fun h5 h5' => (.yes (.yes (.g (.yes (.r (.g (.f 0 (AV.bool false) (.e (AV.bool false) (by
        simp only [cardR]
        simp_all <;> omega)))))))))) (fun h5 h5' => (.no (.no (.g (.two (decide (c.over > 3)) (fun h6 h6' => (.r (.g (.f 0 (AV.bool false) (.e (AV.bool false) (by
        simp only [cardR]
        simp_all <;> omega)))))) (fun h6 h6' => (.r (.two (decide (c.lease ≥ 1)) (fun h7 h7' => (.yes (.yes (.two (decide (c.lease ≤ 1048576)) (fun h8 h8' => (.yes (.yes (.c 11 (stRight_at c.stamp  ([] : Heap)) (.g (.f 0 (AV.bool (stR c.stamp)) (.e (AV.bool (stR c.stamp)) (by
        simp only [cardR]
        simp_all <;> omega)))))))) (fun h8 h8' => (.no (.no (.g (.f 0 (AV.bool false) (.e (AV.bool false) (by
        simp only [cardR]
        simp_all <;> omega))))))))))) (fun h7 h7' => (.no (.no (.no (.no (.no (.g (.f 0 (AV.bool false) (.e (AV.bool false) (by
        simp only [cardR]
        simp_all <;> omega)))))))))))))))))))))))))) (fun h3 h3' => (.no (.no (.g (.no (.r (.two (decide (c.over < 0)) (fun h4 h4' => (.yes (.yes (.g (.yes (.r (.g (.f 0 (AV.bool false) (.e (AV.bool false) (by
        simp only [cardR]
        simp_all <;> omega)))))))))) (fun h4 h4' => (.no (.no (.g (.two (decide (c.over > 3)) (fun h5 h5' => (.r (.g (.f 0 (AV.bool false) (.e (AV.bool false) (by
        simp only [cardR]
        simp_all <;> omega)))))) (fun h5 h5' => (.r (.two (decide (c.lease ≥ 1)) (fun h6 h6' => (.yes (.yes (.two (decide (c.lease ≤ 1048576)) (fun h7 h7' => (.yes (.yes (.c 11 (stRight_at c.stamp  ([] : Heap)) (.g (.f 0 (AV.bool (stR c.stamp)) (.e (AV.bool (stR c.stamp)) (by
        simp only [cardR]
        simp_all <;> omega)))))))) (fun h7 h7' => (.no (.no (.g (.f 0 (AV.bool false) (.e (AV.bool false) (by
        simp only [cardR]
        simp_all <;> omega))))))))))) (fun h6 h6' => (.no (.no (.no (.no (.no (.g (.f 0 (AV.bool false) (.e (AV.bool false) (by
        simp only [cardR]
        simp_all <;> omega)))))))))))))))))))))))))))))))))))))))))
theorem cright_at (c : Card)  (H : Heap) : ACalls Try.prog 72 [(.agg (Card.row c))] H ((AV.bool (cardR c)), H) := (cright_spec c ).lift kr kr H
def rright_ann : Ann := { refs := [1], fin := some 0 }
set_option maxRecDepth 100000 in
theorem rright_spec (c : Card) (h1 : c.key.app.size < 9223372036854775807) (h2 : c.key.id.size < 9223372036854775807) : ACalls Try.prog 118 [(.agg (Card.row c))] ([] : Heap) ((AV.bool (cardR c)), ([] : Heap)) :=
  specO (fn := Try.f118) (ann := rright_ann) (Has.o Try.func118) (.r (.g (.r (.c 3 (rname_at c.key.app oa ([] : Heap)) (.two (nameB c.key.app) (fun h1 h1' => (.yes (.yes (.yes (.c 8 (rname_at c.key.id oa ([] : Heap)) (.two (nameB c.key.id) (fun h2 h2' => (.yes (.yes (.yes (.two (c.status == 1) (fun h3 h3' => (.yes (.yes (.yes (.yes (.yes (.yes (.two (decide (c.over ≥ 0)) (fun h4 h4' => (.yes (.yes (.two (decide (c.over ≤ 3)) (fun h5 h5' => (.yes (.yes (.two (decide (c.lease ≥ 1)) (fun h6 h6' => (.yes (.yes (.two (decide (c.lease ≤ 1048576)) (fun h7 h7' => (.yes (.yes (.c 43 (rstRight_at c.stamp  ([] : Heap)) (.g (.f 0 (AV.bool (stR c.stamp)) (.e (AV.bool (stR c.stamp)) (by
        simp only [cardR]
        simp_all <;> omega)))))))) (fun h7 h7' => (.no (.no (.g (.f 0 (AV.bool false) (.e (AV.bool false) (by
        simp only [cardR]
        simp_all <;> omega))))))))))) (fun h6 h6' => (.no (.no (.no (.no (.no (.g (.f 0 (AV.bool false) (.e (AV.bool false) (by
        simp only [cardR]
        simp_all <;> omega)))))))))))))) (fun h5 h5' => (.no (.no (.no (.no (.no (.no (.no (.no (.g (.f 0 (AV.bool false) (.e (AV.bool false) (by
        simp only [cardR]
        simp_all <;> omega))))))))))))))))) (fun h4 h4' => (.no (.no (.no (.no (.no (.no (.no (.no (.no (.no (.no (.g (.f 0 (AV.bool false) (.e (AV.bool false) (by
        simp only [cardR]
        simp_all <;> omega)))))))))))))))))))))))) (fun h3 h3' => (.no (.no (.yes (.two (c.status == 2) (fun h4 h4' => (.yes (.yes (.two (decide (c.over ≥ 0)) (fun h5 h5' => (.yes (.yes (.two (decide (c.over ≤ 3)) (fun h6 h6' => (.yes (.yes (.two (decide (c.lease ≥ 1)) (fun h7 h7' => (.yes (.yes (.two (decide (c.lease ≤ 1048576)) (fun h8 h8' => (.yes (.yes (.c 43 (rstRight_at c.stamp  ([] : Heap)) (.g (.f 0 (AV.bool (stR c.stamp)) (.e (AV.bool (stR c.stamp)) (by
        simp only [cardR]
        simp_all <;> omega)))))))) (fun h8 h8' => (.no (.no (.g (.f 0 (AV.bool false) (.e (AV.bool false) (by
        simp only [cardR]
        simp_all <;> omega))))))))))) (fun h7 h7' => (.no (.no (.no (.no (.no (.g (.f 0 (AV.bool false) (.e (AV.bool false) (by
        simp only [cardR]
        simp_all <;> omega)))))))))))))) (fun h6 h6' => (.no (.no (.no (.no (.no (.no (.no (.no (.g (.f 0 (AV.bool false) (.e (AV.bool false) (by
        simp only [cardR]
        simp_all <;> omega))))))))))))))))) (fun h5 h5' => (.no (.no (.no (.no (.no (.no (.no (.no (.no (.no (.no (.g (.f 0 (AV.bool false) (.e (AV.bool false) (by
        simp only [cardR]
        simp_all <;> omega)))))))))))))))))))) (fun h4 h4' => (.no (.no (.no (.no (.no (.no (.no (.no (.no (.no (.no (.no (.no (.no (.g (.f 0 (AV.bool false) (.e (AV.bool false) (by
        simp only [cardR]
        simp_all <;> omega))))))))))))))))))))))))))))) (fun h2 h2' => (.no (.no (.no (.no (.no (.no (.no (.no (.no (.no (.no (.no (.no (.no (.no (.no (.no (.no (.no (.g (.f 0 (AV.bool false) (.e (AV.bool false) (by
        simp only [cardR]
        simp_all <;> omega)))))))))))))))))))))))))))))) (fun h1 h1' => (.no (.no (.no (.no (.no (.no (.no (.no (.no (.no (.no (.no (.no (.no (.no (.no (.no (.no (.no (.no (.no (.no (.no (.g (.f 0 (AV.bool false) (.e (AV.bool false) (by
        simp only [cardR]
        simp_all <;> omega)))))))))))))))))))))))))))))))))
theorem rright_at (c : Card) (h1 : c.key.app.size < 9223372036854775807) (h2 : c.key.id.size < 9223372036854775807) (H : Heap) : ACalls Try.prog 118 [(.agg (Card.row c))] H ((AV.bool (cardR c)), H) := (rright_spec c h1 h2).lift kr kr H
attribute [local irreducible] cardR
end Go.Proofs.Ytcmfnfkahdconaa.AM

set_option linter.unusedVariables false
set_option linter.unusedSimpArgs false
set_option maxRecDepth 100000
namespace Go.Proofs.Ytcmfnfkahdconaa.AM
open Go
end Go.Proofs.Ytcmfnfkahdconaa.AM

set_option maxRecDepth 100000
set_option linter.unusedVariables false
set_option linter.unusedSimpArgs false
namespace Go.Proofs.Ytcmfnfkahdconaa.AM
open Go Go.Proofs.Ytcmfnfkahdconaa
attribute [local irreducible] ACalls funT codeT codeQ LoopTo
attribute [local irreducible] Tp.card Tp.cardT Tp.next Tp.step Tp.cards Tp.cardsT Tp.key Tp.keyT sink insSort sortK insK posK beforeK sortP cmpK
end Go.Proofs.Ytcmfnfkahdconaa.AM

set_option linter.unusedVariables false
set_option linter.unusedSimpArgs false
set_option maxRecDepth 100000
namespace Go.Proofs.Ytcmfnfkahdconaa.AM
open Go
end Go.Proofs.Ytcmfnfkahdconaa.AM

set_option maxRecDepth 100000
set_option linter.unusedVariables false
set_option linter.unusedSimpArgs false
namespace Go.Proofs.Ytcmfnfkahdconaa.AM
open Go Go.Proofs.Ytcmfnfkahdconaa
attribute [local irreducible] ACalls funT codeT codeQ LoopTo
attribute [local irreducible] Tp.card Tp.cardT Tp.next Tp.step Tp.cards Tp.cardsT Tp.key Tp.keyT sink insSort sortK insK posK beforeK
end Go.Proofs.Ytcmfnfkahdconaa.AM

set_option maxRecDepth 100000
set_option linter.unusedVariables false
set_option linter.unusedSimpArgs false
namespace Go.Proofs.Ytcmfnfkahdconaa.AM
open Go Go.Proofs.Ytcmfnfkahdconaa
attribute [local irreducible] ACalls funT codeT codeQ LoopTo
attribute [local irreducible] Tp.card Tp.cardT Tp.next Tp.step Tp.cards Tp.cardsT Tp.key Tp.keyT sink insSort sortK insK posK beforeK
end Go.Proofs.Ytcmfnfkahdconaa.AM

set_option maxRecDepth 100000
set_option linter.unusedVariables false
set_option linter.unusedSimpArgs false
namespace Go.Proofs.Ytcmfnfkahdconaa.AM
open Go Go.Proofs.Ytcmfnfkahdconaa
attribute [local irreducible] ACalls funT codeT codeQ LoopTo
attribute [local irreducible] Tp.card Tp.cardT Tp.next Tp.step Tp.cards Tp.cardsT Tp.key Tp.keyT sink insSort sortK insK posK beforeK
end Go.Proofs.Ytcmfnfkahdconaa.AM

set_option maxRecDepth 100000
set_option linter.unusedVariables false
set_option linter.unusedSimpArgs false
namespace Go.Proofs.Ytcmfnfkahdconaa.AM
open Go Go.Proofs.Ytcmfnfkahdconaa
attribute [local irreducible] ACalls funT codeT codeQ LoopTo
end Go.Proofs.Ytcmfnfkahdconaa.AM

set_option maxRecDepth 100000
set_option linter.unusedVariables false
set_option linter.unusedSimpArgs false
namespace Go.Proofs.Ytcmfnfkahdconaa.AM
open Go Go.Proofs.Ytcmfnfkahdconaa
attribute [local irreducible] ACalls funT codeT codeQ LoopTo
end Go.Proofs.Ytcmfnfkahdconaa.AM

set_option maxRecDepth 100000
set_option linter.unusedVariables false
set_option linter.unusedSimpArgs false
namespace Go.Proofs.Ytcmfnfkahdconaa.AM
open Go Go.Proofs.Ytcmfnfkahdconaa
attribute [local irreducible] ACalls funT codeT codeQ LoopTo
attribute [local irreducible] Tp.card Tp.cardT Tp.next Tp.step Tp.cards Tp.cardsT Tp.key Tp.keyT sink insSort sortK insK posK beforeK sortP cmpK byteB cutS textB byteAt intB showsC hereL seenK cardB sealB sumStep sumB ofB strL
end Go.Proofs.Ytcmfnfkahdconaa.AM

set_option maxRecDepth 100000
set_option linter.unusedVariables false
set_option linter.unusedSimpArgs false
namespace Go.Proofs.Ytcmfnfkahdconaa.AM
open Go Go.Proofs.Ytcmfnfkahdconaa
attribute [local irreducible] ACalls funT codeT codeQ LoopTo
abbrev zRow : List AV := [(AV.int .i64 0), (AV.int .i64 0), (AV.int .i64 0), (AV.int .i64 0), (AV.int .i64 0), (AV.int .i64 0), (AV.int .i64 0), (AV.str ⟨#[]⟩), (AV.str ⟨#[]⟩), (AV.bool false), (AV.int .u32 0), (AV.sl .nil 0 []), (AV.sl .nil 0 [])]
abbrev mRow (x b u c : AV) : List AV := [(AV.int .i64 2), (AV.int .i64 5), (AV.int .i64 0), (AV.int .i64 0), (AV.int .i64 0), (AV.int .i64 0), x, (AV.str ⟨#[]⟩), (AV.str ⟨#[]⟩), b, u, c, (AV.sl .nil 0 [])]
@[simp] theorem zRow_bdds (n : Nat) : AV.bdds n zRow = true := by simp [AV.bdds, AV.bdd]
@[simp] theorem mRow_bdds (n : Nat) (x b u c : AV) : AV.bdds n (mRow x b u c) = (AV.bdd n x && (AV.bdd n b && (AV.bdd n u && AV.bdd n c))) := by simp [AV.bdds, AV.bdd]
attribute [local irreducible] seenK sealB ofB sortP hereL sortK
end Go.Proofs.Ytcmfnfkahdconaa.AM

set_option maxRecDepth 100000
set_option linter.unusedVariables false
set_option linter.unusedSimpArgs false
namespace Go.Proofs.Ytcmfnfkahdconaa.AM
open Go Go.Proofs.Ytcmfnfkahdconaa
attribute [local irreducible] ACalls funT codeT codeQ LoopTo
attribute [local irreducible] seenK sealB ofB sortP hereL sortK Tp.card Tp.cardT Tp.next Tp.step
end Go.Proofs.Ytcmfnfkahdconaa.AM

set_option maxRecDepth 100000
set_option linter.unusedVariables false
set_option linter.unusedSimpArgs false
namespace Go.Proofs.Ytcmfnfkahdconaa.AM
open Go Go.Proofs.Ytcmfnfkahdconaa
attribute [local irreducible] ACalls funT codeT codeQ LoopTo
attribute [local irreducible] seenK sealB ofB sortP hereL sortK Tp.card Tp.cardT Tp.next Tp.step
end Go.Proofs.Ytcmfnfkahdconaa.AM

set_option maxRecDepth 100000
set_option linter.unusedVariables false
set_option linter.unusedSimpArgs false
namespace Go.Proofs.Ytcmfnfkahdconaa.AM
open Go Go.Proofs.Ytcmfnfkahdconaa
attribute [local irreducible] ACalls funT codeT codeQ LoopTo
attribute [local irreducible] seenK sealB ofB sortP hereL sortK Tp.card Tp.cardT Tp.next Tp.step nameB stR cardR
theorem iter_inv {σ : Type} (f : Nat → σ → σ) (P : Nat → σ → Prop) (n : Nat) (h : ∀ i s, i < n → P i s → P (i + 1) (f i s)) (r : Nat) : ∀ (i : Nat) (s : σ), i + r ≤ n → P i s → P (i + r) (iter f r i s) := by
  induction r with
  | zero => intro i s _ hp; exact hp
  | succ r ih =>
    intro i s hi hp
    have := ih (i + 1) (f i s) ow (h i s ow hp)
    rw [show i + (r + 1) = i + 1 + r by omega]; exact this
theorem iter_proj {σ τ : Type} (f : Nat → σ → σ) (f' : Nat → τ → τ) (p : σ → τ) (h : ∀ i s, p (f i s) = f' i (p s)) (r : Nat) : ∀ (i : Nat) (s : σ), p (iter f r i s) = iter f' r i (p s) := by
  induction r with
  | zero => intro i s; rfl
  | succ r ih => intro i s; show p (iter f r (i + 1) (f i s)) = iter f' r (i + 1) (f' i (p s)); rw [ih, h]
end Go.Proofs.Ytcmfnfkahdconaa.AM

set_option linter.unusedVariables false
set_option linter.unusedSimpArgs false
namespace Go.Proofs.Ytcmfnfkahdconaa.AM
open Go
section
variable {P : Program} {X : Env} {F : Fr} {H H2 : Heap} {ar : Nat} {o : Oper}
end
end Go.Proofs.Ytcmfnfkahdconaa.AM

set_option linter.unusedVariables false
set_option linter.unusedSimpArgs false
set_option linter.unusedSectionVars false
namespace Go.Proofs.Ytcmfnfkahdconaa.AM
open Go
section
variable {α : Type} [Inhabited α]
theorem nth_def (l : List α) (q : Nat) : nth l q = l.getD q default := rfl
theorem nth_setM (l : List α) {i : Nat} (h : i < l.length) (x : α) (q : Nat) : nth (l.set i x) q = if i = q then x else nth l q := by
  simp only [nth_def, List.getD_eq_getElem?_getD]
  by_cases e : i = q
  · subst e; rw [List.getElem?_set_self h, if_pos rfl]; rfl
  · rw [List.getElem?_set_ne e, if_neg e]
theorem nth_appM (l m : List α) (q : Nat) : nth (l ++ m) q = if q < l.length then nth l q else nth m (q - l.length) := by
  simp only [nth_def, List.getD_eq_getElem?_getD]
  split
  · rename_i h; rw [List.getElem?_append_left h]
  · rename_i h; rw [List.getElem?_append_right (by omega)]
theorem ext_nth {l m : List α} (hl : l.length = m.length) (h : ∀ q, q < l.length → nth l q = nth m q) : l = m := by
  apply List.ext_getElem hl
  intro q h1 h2
  have := h q h1
  rwa [nth_getElem h1, nth_getElem h2] at this
def swapL (a b n : Nat) (l : List α) : List α := iter (fun i l => (l.set (a + i) (nth l (b + i))).set (b + i) (nth l (a + i))) n 0 l
theorem swapL_all (a b n : Nat) (l : List α) (hab : a + n ≤ b) (hb : b + n ≤ l.length) : ∀ k, k ≤ n → (swapL a b k l).length = l.length ∧ ∀ q, nth (swapL a b k l) q = if a ≤ q ∧ q < a + k then nth l (b + (q - a)) else if b ≤ q ∧ q < b + k then nth l (a + (q - b)) else nth l q := by
  intro k
  induction k with
  | zero =>
    intro _
    refine ⟨rfl, fun q => ?_⟩
    rw [if_neg (by omega), if_neg (by omega)]
    rfl
  | succ k ih =>
    intro hk
    obtain ⟨h1, h2⟩ := ih (by omega)
    have e : swapL a b (k + 1) l = ((swapL a b k l).set (a + k) (nth (swapL a b k l) (b + k))).set (b + k) (nth (swapL a b k l) (a + k)) := iter_succ _ _ _
    refine ⟨by rw [e]; simp [h1], fun q => ?_⟩
    rw [e, nth_setM _ (by simp; omega), nth_setM _ (by omega), h2, h2, h2]
    by_cases c1 : b + k = q
    · subst c1
      rw [if_pos rfl, if_neg (by omega), if_neg (by omega), if_neg (by omega), if_pos (by omega)]
      congr 1; omega
    · rw [if_neg c1]
      by_cases c2 : a + k = q
      · subst c2
        rw [if_pos rfl, if_neg (by omega), if_neg (by omega), if_pos (by omega)]
        congr 1; omega
      · rw [if_neg c2]
        have e1 : (a ≤ q ∧ q < a + (k + 1)) ↔ (a ≤ q ∧ q < a + k) := by omega
        have e2 : (b ≤ q ∧ q < b + (k + 1)) ↔ (b ≤ q ∧ q < b + k) := by omega
        simp only [e1, e2]
theorem swapL_len {a b n : Nat} {l : List α} (hab : a + n ≤ b) (hb : b + n ≤ l.length) : (swapL a b n l).length = l.length := (swapL_all a b n l hab hb n (Nat.le_refl _)).1
theorem swapL_parts (X U M V Y : List α) {a b n : Nat} (ha : a = X.length) (hU : U.length = n) (hV : V.length = n) (hb : b = X.length + n + M.length) :
    swapL a b n (X ++ (U ++ (M ++ (V ++ Y)))) = X ++ (V ++ (M ++ (U ++ Y))) := by
  obtain ⟨h1, h2⟩ := swapL_all a b n (X ++ (U ++ (M ++ (V ++ Y)))) (by omega) (by simp; omega) n (Nat.le_refl _)
  refine ext_nth (by rw [h1]; simp; omega) fun q hq => ?_
  rw [h2]
  simp only [nth_appM, hU, hV]
  by_cases c1 : q < X.length
  · rw [if_neg (by omega), if_neg (by omega), if_pos c1, if_pos c1]
  · rw [if_neg (c := q < X.length) c1, if_neg (c := q < X.length) c1]
    by_cases c2 : q - X.length < n
    · rw [if_pos (by omega), if_pos (c := q - X.length < n) c2, if_neg (by omega), if_neg (by omega), if_neg (by omega), if_pos (by omega)]
      congr 1; omega
    · rw [if_neg (by omega), if_neg (c := q - X.length < n) c2, if_neg (c := q - X.length < n) c2]
      by_cases c3 : q - X.length - n < M.length
      · rw [if_neg (by omega), if_pos c3, if_pos c3]
      · rw [if_neg (c := q - X.length - n < M.length) c3, if_neg (c := q - X.length - n < M.length) c3]
        by_cases c4 : q - X.length - n - M.length < n
        · rw [if_pos (by omega), if_pos (c := q - X.length - n - M.length < n) c4, if_neg (by omega), if_pos (by omega)]
          congr 1; omega
        · rw [if_neg (by omega), if_neg c4, if_neg c4]
def rotS (m : Nat) : Nat → Nat → Nat → List α → List α × Nat
  | 0, i, _, l => (l, i)
  | r + 1, i, j, l => if i = j then (l, i) else if j < i then rotS m r (i - j) j (swapL (m - i) m j l) else rotS m r i (j - i) (swapL (m - i) (m + j - i) i l)
def rotL (a m b : Nat) (l : List α) : List α := swapL (m - (rotS m (m - a + (b - m)) (m - a) (b - m) l).2) m (rotS m (m - a + (b - m)) (m - a) (b - m) l).2 (rotS m (m - a + (b - m)) (m - a) (b - m) l).1
theorem rotS_parts (m : Nat) (T : List α) (r : Nat) : ∀ (X U V Y : List α) (i j : Nat), i + j ≤ r + 1 → 0 < i → 0 < j → U.length = i → V.length = j → m = X.length + i → T = X ++ (V ++ (U ++ Y)) →
    0 < (rotS m r i j (X ++ (U ++ (V ++ Y)))).2 ∧ (rotS m r i j (X ++ (U ++ (V ++ Y)))).2 ≤ i ∧ (rotS m r i j (X ++ (U ++ (V ++ Y)))).2 ≤ j ∧ (rotS m r i j (X ++ (U ++ (V ++ Y)))).1.length = T.length ∧ swapL (m - (rotS m r i j (X ++ (U ++ (V ++ Y)))).2) m (rotS m r i j (X ++ (U ++ (V ++ Y)))).2 (rotS m r i j (X ++ (U ++ (V ++ Y)))).1 = T := by
  induction r with
  | zero => intro X U V Y i j h1 h2 h3; omega
  | succ r ih =>
    intro X U V Y i j h1 h2 h3 hU hV hm hT
    simp only [rotS]
    by_cases c1 : i = j
    · rw [if_pos c1]
      refine ⟨h2, Nat.le_refl _, by simp only; omega, by rw [hT]; simp; omega, ?_⟩
      subst c1
      have := swapL_parts X U [] V Y (a := m - i) (b := m) (n := i) (by omega) hU hV (by simp; omega)
      rw [hT]
      simpa using this
    · rw [if_neg c1]
      by_cases c2 : j < i
      · rw [if_pos c2]
        have hP : (U.take j).length = j := by simp; omega
        have hQ : (U.drop j).length = i - j := by simp; omega
        have e := swapL_parts X (U.take j) (U.drop j) V Y (a := m - i) (b := m) (n := j) (by omega) hP hV (by omega)
        rw [← List.append_assoc (U.take j), List.take_append_drop] at e
        rw [e]
        have := ih (X ++ V) (U.drop j) (U.take j) Y (i - j) j (by omega) (by omega) h3 hQ hP (by simp; omega) (by rw [hT, ← List.append_assoc (U.take j), List.take_append_drop]; simp)
        simp only [List.append_assoc] at this ⊢
        exact ⟨this.1, by omega, this.2.2.1, this.2.2.2⟩
      · rw [if_neg c2]
        have hP : (V.take (j - i)).length = j - i := by simp; omega
        have hQ : (V.drop (j - i)).length = i := by simp; omega
        have e := swapL_parts X U (V.take (j - i)) (V.drop (j - i)) Y (a := m - i) (b := m + j - i) (n := i) (by omega) hU hQ (by omega)
        rw [← List.append_assoc (V.take (j - i)) (V.drop (j - i)), List.take_append_drop] at e
        rw [e]
        have := ih X (V.drop (j - i)) (V.take (j - i)) (U ++ Y) i (j - i) (by omega) h2 (by omega) hQ hP hm (by rw [hT, ← List.append_assoc (V.take (j - i)) (V.drop (j - i)), List.take_append_drop])
        exact ⟨this.1, this.2.1, by omega, this.2.2.2⟩
theorem rotL_parts (X U V Y : List α) {a m b : Nat} (ha : a = X.length) (hm : m = X.length + U.length) (hb : b = X.length + U.length + V.length) (h1 : 0 < U.length) (h2 : 0 < V.length) : rotL a m b (X ++ (U ++ (V ++ Y))) = X ++ (V ++ (U ++ Y)) := by
  have e1 : m - a = U.length := by omega
  have e2 : b - m = V.length := by omega
  unfold rotL
  rw [e1, e2]
  exact (rotS_parts m _ _ X U V Y U.length V.length (by omega) h1 h2 rfl rfl hm rfl).2.2.2.2
def bsr (p : Nat → Bool) : Nat → Nat → Nat → Nat
  | 0, lo, _ => lo
  | r + 1, lo, hi => if lo < hi then if p ((lo + hi) / 2) = true then bsr p r ((lo + hi) / 2 + 1) hi else bsr p r lo ((lo + hi) / 2) else lo
theorem bsr_spec (p : Nat → Bool) (r : Nat) : ∀ (lo hi : Nat), hi - lo ≤ r → lo ≤ hi → lo ≤ bsr p r lo hi ∧ bsr p r lo hi ≤ hi ∧ (lo < bsr p r lo hi → p (bsr p r lo hi - 1) = true) ∧ (bsr p r lo hi < hi → p (bsr p r lo hi) = false) := by
  induction r with
  | zero =>
    intro lo hi h1 h2
    simp only [bsr]
    exact ⟨Nat.le_refl _, h2, fun h => by omega, fun h => by omega⟩
  | succ r ih =>
    intro lo hi h1 h2
    simp only [bsr]
    by_cases c : lo < hi
    · rw [if_pos c]
      by_cases d : p ((lo + hi) / 2) = true
      · rw [if_pos d]
        obtain ⟨k1, k2, k3, k4⟩ := ih ((lo + hi) / 2 + 1) hi (by omega) (by omega)
        refine ⟨by omega, k2, fun _ => ?_, k4⟩
        rcases Nat.lt_or_ge ((lo + hi) / 2 + 1) (bsr p r ((lo + hi) / 2 + 1) hi) with h | h
        · exact k3 h
        · have : bsr p r ((lo + hi) / 2 + 1) hi = (lo + hi) / 2 + 1 := by omega
          rw [this]; simpa using d
      · rw [if_neg d]
        obtain ⟨k1, k2, k3, k4⟩ := ih lo ((lo + hi) / 2) (by omega) (by omega)
        refine ⟨k1, by omega, k3, fun _ => ?_⟩
        rcases Nat.lt_or_ge (bsr p r lo ((lo + hi) / 2)) ((lo + hi) / 2) with h | h
        · exact k4 h
        · have : bsr p r lo ((lo + hi) / 2) = (lo + hi) / 2 := by omega
          rw [this]; simpa using d
    · rw [if_neg c]
      exact ⟨Nat.le_refl _, h2, fun h => by omega, fun h => by omega⟩
def mgL (lt : α → α → Bool) : Nat → List α → List α → List α
  | 0, L, R => L ++ R
  | _ + 1, [], R => R
  | _ + 1, L, [] => L
  | n + 1, x :: L, y :: R => if lt y x = true then y :: mgL lt n (x :: L) R else x :: mgL lt n L (y :: R)
def mg (lt : α → α → Bool) (L R : List α) : List α := mgL lt (L.length + R.length) L R
theorem mg_nil_l (lt : α → α → Bool) (R : List α) : mg lt [] R = R := by
  unfold mg; cases h : ([] : List α).length + R.length <;> simp [mgL]
theorem mg_nil_r (lt : α → α → Bool) (L : List α) : mg lt L [] = L := by
  unfold mg
  cases L with
  | nil => simp [mgL]
  | cons x L => simp [mgL]
theorem mg_cons (lt : α → α → Bool) (x y : α) (L R : List α) : mg lt (x :: L) (y :: R) = if lt y x = true then y :: mg lt (x :: L) R else x :: mg lt L (y :: R) := by
  unfold mg
  have h1 : (x :: L).length + (y :: R).length = ((x :: L).length + R.length) + 1 := by simp; omega
  have h2 : L.length + (y :: R).length = (x :: L).length + R.length := by simp; omega
  rw [h1, h2]
  rfl
theorem mg_split (lt : α → α → Bool) {L2 R2 : List α} (n : Nat) : ∀ (L1 R1 : List α), L1.length + R1.length ≤ n → (∀ x ∈ L2, ∀ y ∈ R1, lt y x = true) → (∀ x ∈ L1, ∀ y ∈ R2, lt y x = false) → mg lt (L1 ++ L2) (R1 ++ R2) = mg lt L1 R1 ++ mg lt L2 R2 := by
  induction n with
  | zero =>
    intro L1 R1 h _ _
    obtain rfl : L1 = [] := List.eq_nil_of_length_eq_zero (by omega)
    obtain rfl : R1 = [] := List.eq_nil_of_length_eq_zero (by omega)
    rw [mg_nil_l]; rfl
  | succ n ih =>
    intro L1 R1 h h1 h2
    cases L1 with
    | nil =>
      cases R1 with
      | nil => rw [mg_nil_l]; rfl
      | cons y R1 =>
        have := ih [] R1 (by simp at h ⊢; omega) (fun x hx y' hy' => h1 x hx y' (List.mem_cons_of_mem _ hy')) (fun x hx => by simp at hx)
        rw [mg_nil_l] at this ⊢
        simp only [List.nil_append, List.cons_append] at this ⊢
        cases L2 with
        | nil => rw [mg_nil_l, mg_nil_l]
        | cons x L2 => rw [mg_cons, if_pos (h1 x (by simp) y (by simp)), this]
    | cons x L1 =>
      cases R1 with
      | nil =>
        have := ih L1 [] (by simp at h ⊢; omega) (fun x hx y' hy' => by simp at hy') (fun x' hx' y hy => h2 x' (List.mem_cons_of_mem _ hx') y hy)
        rw [mg_nil_r] at this ⊢
        simp only [List.nil_append, List.cons_append] at this ⊢
        cases R2 with
        | nil => rw [mg_nil_r, mg_nil_r]
        | cons y R2 => rw [mg_cons, if_neg (by rw [h2 x (by simp) y (by simp)]; simp), this]
      | cons y R1 =>
        simp only [List.cons_append]
        rw [mg_cons, mg_cons]
        have k1 := ih (x :: L1) R1 (by simp at h ⊢; omega) (fun x hx y' hy' => h1 x hx y' (List.mem_cons_of_mem _ hy')) h2
        have k2 := ih L1 (y :: R1) (by simp at h ⊢; omega) h1 (fun x' hx' y hy => h2 x' (List.mem_cons_of_mem _ hx') y hy)
        simp only [List.cons_append] at k1 k2
        split
        · rw [k1]; rfl
        · rw [k2]; rfl
theorem mg_perm (lt : α → α → Bool) (n : Nat) : ∀ (L R : List α), L.length + R.length ≤ n → List.Perm (mg lt L R) (L ++ R) := by
  induction n with
  | zero =>
    intro L R h
    obtain rfl : L = [] := List.eq_nil_of_length_eq_zero (by omega)
    obtain rfl : R = [] := List.eq_nil_of_length_eq_zero (by omega)
    rw [mg_nil_l]; exact .refl _
  | succ n ih =>
    intro L R h
    cases L with
    | nil => rw [mg_nil_l]; exact .refl _
    | cons x L =>
      cases R with
      | nil => rw [mg_nil_r]; simp
      | cons y R =>
        rw [mg_cons]
        split
        · refine (List.Perm.cons y (ih (x :: L) R (by simp at h ⊢; omega))).trans ?_
          exact (List.perm_middle (a := y) (l₁ := x :: L) (l₂ := R)).symm
        · exact List.Perm.cons x (ih L (y :: R) (by simp at h ⊢; omega))
theorem mg_len (lt : α → α → Bool) (L R : List α) : (mg lt L R).length = L.length + R.length := by
  have := (mg_perm lt _ L R (Nat.le_refl _)).length_eq
  simpa using this
end
end Go.Proofs.Ytcmfnfkahdconaa.AM

set_option maxRecDepth 100000
set_option linter.unusedVariables false
set_option linter.unusedSimpArgs false
namespace Go.Proofs.Ytcmfnfkahdconaa.AM
open Go Go.Proofs.Ytcmfnfkahdconaa
attribute [local irreducible] ACalls funT codeT codeQ LoopTo
attribute [local irreducible] Tp.card Tp.cardT Tp.next Tp.step Tp.cards Tp.cardsT Tp.key Tp.keyT sink insSort sortK insK posK beforeK sortP cmpK
theorem half_nat {n h : Nat} (hn : n < 4611686018427387904) (hh : h = n / 2) : IntKind.i64.wrap (Int.fdiv (IntKind.u64.wrap ((n : Nat) : Int)) (2 ^ (min (Int.toNat 1) 64))) = ((h : Nat) : Int) := by
  have h1 : IntKind.u64.wrap ((n : Nat) : Int) = ((n : Nat) : Int) := by simp [IntKind.wrap, IntKind.signed, IntKind.bits]; omega
  have h2 : (2 : Int) ^ (min (Int.toNat 1) 64) = 2 := rfl
  rw [h1, h2, Int.fdiv_eq_ediv_of_nonneg _ ow, IntKind.wrap_i64]
  omega
section
variable {α : Type} [Inhabited α]
def ltF (cmp : α → α → Int) (x y : α) : Bool := decide (cmp x y < 0)
def mAt (lt : α → α → Bool) (a m b : Nat) (l : List α) : List α := l.take a ++ (mg lt ((l.drop a).take (m - a)) ((l.drop m).take (b - m)) ++ l.drop b)
def shU (r k : Nat) (l : List α) : List α := iter (fun k l => (l.set k (nth l (k + 1))).set (k + 1) (nth l k)) r k l
def shD : Nat → Nat → List α → List α
  | 0, _, l => l
  | r + 1, k, l => shD r (k - 1) ((l.set k (nth l (k - 1))).set (k - 1) (nth l k))
end
end Go.Proofs.Ytcmfnfkahdconaa.AM

set_option linter.unusedVariables false
set_option linter.unusedSimpArgs false
set_option linter.unusedSectionVars false
namespace Go.Proofs.Ytcmfnfkahdconaa.AM
open Go
section
variable {α : Type} [Inhabited α]
theorem swap1 (X : List α) (x y : α) (Z : List α) {k : Nat} (hk : k = X.length) : ((X ++ x :: y :: Z).set k (nth (X ++ x :: y :: Z) (k + 1))).set (k + 1) (nth (X ++ x :: y :: Z) k) = X ++ y :: x :: Z := by
  have := swapL_parts X [x] [] [y] Z (a := k) (b := k + 1) (n := 1) hk rfl rfl (by simp; omega)
  simpa [swapL, iter] using this
theorem shU_parts (x : α) (R : List α) : ∀ (X Y : List α) (k : Nat), k = X.length → shU R.length k (X ++ x :: (R ++ Y)) = X ++ (R ++ x :: Y) := by
  induction R with
  | nil => intro X Y k hk; rfl
  | cons y R ih =>
    intro X Y k hk
    have h1 : shU (y :: R).length k (X ++ x :: ((y :: R) ++ Y)) = shU R.length (k + 1) (((X ++ x :: y :: (R ++ Y)).set k (nth (X ++ x :: y :: (R ++ Y)) (k + 1))).set (k + 1) (nth (X ++ x :: y :: (R ++ Y)) k)) := rfl
    rw [h1, swap1 X x y (R ++ Y) hk]
    have := ih (X ++ [y]) Y (k + 1) (by simp [hk])
    simpa using this
theorem shD_parts (y : α) (r : Nat) : ∀ (X L Y : List α) (k : Nat), L.length = r → k = X.length + r → shD r k (X ++ (L ++ y :: Y)) = X ++ y :: (L ++ Y) := by
  induction r with
  | zero =>
    intro X L Y k hL hk
    obtain rfl : L = [] := List.eq_nil_of_length_eq_zero hL
    rfl
  | succ r ih =>
    intro X L Y k hL hk
    rcases List.eq_nil_or_concat L with rfl | ⟨L', z, rfl⟩
    · simp at hL
    · rw [List.concat_eq_append] at *
      have hL' : L'.length = r := by simpa using hL
      simp only [shD]
      have e0 : X ++ ((L' ++ [z]) ++ y :: Y) = (X ++ L') ++ z :: y :: Y := by simp
      obtain ⟨k', rfl⟩ : ∃ k', k = k' + 1 := ⟨k - 1, by omega⟩
      rw [e0, Nat.add_sub_cancel, List.set_comm _ _ (by omega), swap1 (X ++ L') z y Y (k := k') (by simp; omega)]
      have := ih X L' (z :: Y) k' hL' (by omega)
      simpa using this
theorem piece (A L Z : List α) {a k : Nat} (ha : a = A.length) (hk : k = L.length) : ((A ++ (L ++ Z)).drop a).take k = L := by
  subst ha hk
  rw [List.drop_append_of_le_length (Nat.le_refl _), List.drop_length, List.nil_append, List.take_append_of_le_length (Nat.le_refl _), List.take_length]
theorem mAt_parts (lt : α → α → Bool) (A L R B : List α) {a m b : Nat} (ha : a = A.length) (hm : m = A.length + L.length) (hb : b = A.length + L.length + R.length) : mAt lt a m b (A ++ (L ++ (R ++ B))) = A ++ (mg lt L R ++ B) := by
  unfold mAt
  have h1 : (A ++ (L ++ (R ++ B))).take a = A := by subst ha; rw [List.take_append_of_le_length (Nat.le_refl _), List.take_length]
  have h2 : ((A ++ (L ++ (R ++ B))).drop a).take (m - a) = L := piece A L (R ++ B) ha (by omega)
  have h3 : ((A ++ (L ++ (R ++ B))).drop m).take (b - m) = R := by
    have := piece (A ++ L) R B (a := m) (k := b - m) (by simp; omega) (by omega)
    simpa using this
  have h4 : (A ++ (L ++ (R ++ B))).drop b = B := by
    have e : A ++ (L ++ (R ++ B)) = (A ++ (L ++ R)) ++ B := by simp
    rw [e, List.drop_append_of_le_length (by simp; omega), List.drop_of_length_le (by simp; omega), List.nil_append]
  rw [h1, h2, h3, h4]
theorem sm1 (A L1 L2 R1 R2 B : List α) {l : List α} (hl : l = A ++ (L1 ++ (L2 ++ (R1 ++ (R2 ++ B))))) {s m e : Nat} (hs : s = A.length + L1.length) (hm : m = s + L2.length) (he : e = m + R1.length) :
    (if s < m ∧ m < e then rotL s m e l else l) = A ++ (L1 ++ (R1 ++ (L2 ++ (R2 ++ B)))) := by
  subst hl
  split
  · rename_i h
    have := rotL_parts (A ++ L1) L2 R1 (R2 ++ B) (a := s) (m := m) (b := e) (by simp; omega) (by simp; omega) (by simp; omega) (by omega) (by omega)
    simpa using this
  · rename_i h
    rcases Nat.eq_zero_or_pos L2.length with h1 | h1
    · obtain rfl : L2 = [] := List.eq_nil_of_length_eq_zero h1
      rfl
    · obtain rfl : R1 = [] := List.eq_nil_of_length_eq_zero (by omega)
      rfl
theorem sm2 (lt : α → α → Bool) (A L1 R1 Z : List α) {a s mid : Nat} (ha : a = A.length) (hs : s = a + L1.length) (hmid : mid = s + R1.length) :
    (if a < s ∧ s < mid then mAt lt a s mid (A ++ (L1 ++ (R1 ++ Z))) else A ++ (L1 ++ (R1 ++ Z))) = A ++ (mg lt L1 R1 ++ Z) := by
  split
  · exact mAt_parts lt A L1 R1 Z ha (by omega) (by omega)
  · rename_i h
    rcases Nat.eq_zero_or_pos L1.length with h1 | h1
    · obtain rfl : L1 = [] := List.eq_nil_of_length_eq_zero h1
      rw [mg_nil_l]; rfl
    · obtain rfl : R1 = [] := List.eq_nil_of_length_eq_zero (by omega)
      rw [mg_nil_r]; rfl
theorem sm3 (lt : α → α → Bool) (A M L2 R2 B : List α) {mid e b : Nat} (hm : mid = A.length + M.length) (he : e = mid + L2.length) (hb : b = e + R2.length) :
    (if mid < e ∧ e < b then mAt lt mid e b (A ++ (M ++ (L2 ++ (R2 ++ B)))) else A ++ (M ++ (L2 ++ (R2 ++ B)))) = A ++ (M ++ (mg lt L2 R2 ++ B)) := by
  have := sm2 lt (A ++ M) L2 R2 B (a := mid) (s := e) (mid := b) (by simp; omega) he hb
  simpa using this
theorem rot_facts (X U V Y : List α) {l : List α} (hl : l = X ++ (U ++ (V ++ Y))) {a m b : Nat} (ha : a = X.length) (hm : m = a + U.length) (hb : b = m + V.length) (h1 : 0 < U.length) (h2 : 0 < V.length) :
    (rotS m (m - a + (b - m)) (m - a) (b - m) l).1.length = l.length ∧ (rotS m (m - a + (b - m)) (m - a) (b - m) l).2 ≤ m - a ∧ (rotS m (m - a + (b - m)) (m - a) (b - m) l).2 ≤ b - m := by
  have e1 : m - a = U.length := by omega
  have e2 : b - m = V.length := by omega
  rw [e1, e2, hl]
  obtain ⟨_, k2, k3, k4, _⟩ := rotS_parts m _ (U.length + V.length) X U V Y U.length V.length (by omega) h1 h2 rfl rfl (by omega) rfl
  exact ⟨by rw [k4]; simp; omega, k2, k3⟩
end
end Go.Proofs.Ytcmfnfkahdconaa.AM

set_option maxRecDepth 100000
set_option linter.unusedVariables false
set_option linter.unusedSimpArgs false
namespace Go.Proofs.Ytcmfnfkahdconaa.AM
open Go Go.Proofs.Ytcmfnfkahdconaa
attribute [local irreducible] ACalls funT codeT codeQ LoopTo
attribute [local irreducible] Tp.card Tp.cardT Tp.next Tp.step Tp.cards Tp.cardsT Tp.key Tp.keyT sink insSort sortK insK posK beforeK sortP cmpK
def mCw_ann : Ann := { base := 1, fin := some 1, live := [(1, [0, 1, 2, 3, 10])], out := [(1, [0, 1, 2, 3, 10])] }
@[simp] abbrev Vic_1 (v1_ : Nat) (v2_ : List Card) (v3_ : Nat) (v4_ : Nat) (v5_ : Nat) : Heap := [⟨v1_, 9, (List.map Card.row ((v2_.set (v3_ + v4_) (nth v2_ (v5_ + v4_))).set (v5_ + v4_) (nth v2_ (v3_ + v4_)))), none⟩]
@[simp] abbrev Vic_2 (v1_ : Nat) (v2_ : Nat) (v3_ : Nat) (v4_ : Nat) (v5_ : Nat) (v6_ : Nat) : Fr := (mkF 38 [(0, (AV.osl 0 v1_ 9 0 v2_)), (1, (AV.int .i64 ((v3_ : Nat) : Int))), (2, (AV.int .i64 ((v4_ : Nat) : Int))), (3, (AV.int .i64 ((v5_ : Nat) : Int))), (10, (AV.int .i64 ((v6_ : Nat) : Int)))])
set_option maxRecDepth 100000 in
theorem mCw_step (a : Nat) (b : Nat) (k : Nat) (n : Nat) (g : Nat) (l : List Card) (i : Nat) (hab : a + k ≤ b) (hb : b + k ≤ n) (hnb : n < 1048576) (hn : n = l.length) (hle_ : i ≤ k) {eX : Ex} {FX : Fr} {HX : Heap} (k1 : (decide (((i : Nat) : Int) < ((k : Nat) : Int))) = true → LoopTo (codeQ Try.prog (X mCw_ann) (loopOf Try.f161 0)) (some [0, 1, 2, 3, 10]) (some [0, 1, 2, 3, 10]) (mkF 38 [(0, (.osl 0 g 9 0 n)), (1, (.int .i64 ((a : Nat) : Int))), (2, (.int .i64 ((b : Nat) : Int))), (3, (.int .i64 ((k : Nat) : Int))), (10, (.int .i64 ((i + 1 : Nat) : Int)))]) (Vic_1 g l a i b) eX FX HX) (k2 : (decide (((i : Nat) : Int) < ((k : Nat) : Int))) = false → ((.exit 0 : Ex), (Vic_2 g n a b k i), ([⟨g, 9, (List.map Card.row l), none⟩] : Heap)) = (eX, FX, HX)) : LoopTo (codeQ Try.prog (X mCw_ann) (loopOf Try.f161 0)) (some [0, 1, 2, 3, 10]) (some [0, 1, 2, 3, 10]) (Vic_2 g n a b k i) ([⟨g, 9, (List.map Card.row l), none⟩] : Heap) eX FX HX :=
  stepO (.r (.g (.two (decide (((i : Nat) : Int) < ((k : Nat) : Int))) (fun h1 h1' => (.r (.y 3 (.int .i64 (IntKind.i64.wrap (((a : Nat) : Int) + ((i : Nat) : Int)))) (AV.int .i64 ((a + i : Nat) : Int)) (Yes.add ow ow ow) (.y 7 (.int .i64 (IntKind.i64.wrap (((b : Nat) : Int) + ((i : Nat) : Int)))) (AV.int .i64 ((b + i : Nat) : Int)) (Yes.add ow ow ow) (.y 11 (.int .i64 (IntKind.i64.wrap (((b : Nat) : Int) + ((i : Nat) : Int)))) (AV.int .i64 ((b + i : Nat) : Int)) (Yes.add ow ow ow) (.io 12 0 g 9 9 0 n ((b + i : Nat) : Int) (b + i) (IdxOsl.mk _ ow ow) (.t 13 (AV.agg (Card.row (nth l (b + i)))) ([⟨g, 9, (List.map Card.row l), none⟩] : Heap) (load_row (rowAt_map (row := Card.row) (l := l) (k := 9) (room := none) kr om) kr : LoadTo tt 58 0 ([⟨g, 9, (List.map Card.row l), none⟩] : Heap) (rowAt ([⟨g, 9, (List.map Card.row l), none⟩] : Heap) 0 g (b + i)) = some ((AV.agg (Card.row (nth l (b + i)))), ([⟨g, 9, (List.map Card.row l), none⟩] : Heap))) (.y 17 (.int .i64 (IntKind.i64.wrap (((a : Nat) : Int) + ((i : Nat) : Int)))) (AV.int .i64 ((a + i : Nat) : Int)) (Yes.add ow ow ow) (.io 18 0 g 9 9 0 n ((a + i : Nat) : Int) (a + i) (IdxOsl.mk _ ow ow) (.t 19 (AV.agg (Card.row (nth l (a + i)))) ([⟨g, 9, (List.map Card.row l), none⟩] : Heap) (load_row (rowAt_map (row := Card.row) (l := l) (k := 9) (room := none) kr om) kr : LoadTo tt 58 0 ([⟨g, 9, (List.map Card.row l), none⟩] : Heap) (rowAt ([⟨g, 9, (List.map Card.row l), none⟩] : Heap) 0 g (a + i)) = some ((AV.agg (Card.row (nth l (a + i)))), ([⟨g, 9, (List.map Card.row l), none⟩] : Heap))) (.io 20 0 g 9 9 0 n ((a + i : Nat) : Int) (a + i) (IdxOsl.mk _ ow ow) (.st 21 0 g (a + i) 9 0 (AV.agg (Card.row (nth l (b + i)))) ([⟨g, 9, (List.map Card.row (l.set (a + i) (nth l (b + i)))), none⟩] : Heap) (store_row (us := (Card.row (nth l (b + i)))) (rowAt_map (row := Card.row) (l := l) (k := 9) (room := none) kr om) kr (by simp [Card.row]) (by simp [setAt, fillAt, List.map_set, Card.row])) (.io 22 0 g 9 9 0 n ((b + i : Nat) : Int) (b + i) (IdxOsl.mk _ ow ow) (.st 23 0 g (b + i) 9 0 (AV.agg (Card.row (nth l (a + i)))) (Vic_1 g l a i b) (store_row (us := (Card.row (nth l (a + i)))) (rowAt_map (row := Card.row) (l := l.set (a + i) (nth l (b + i))) (k := 9) (room := none) kr om) kr (by simp [Card.row]) (by simp [setAt, fillAt, List.map_set, Card.row])) (.g (.r (.y 1 (.int .i64 (IntKind.i64.wrap (((i : Nat) : Int) + 1))) (AV.int .i64 ((i + 1 : Nat) : Int)) (Yes.add ow ow ow) (.g (.l (k1 h1)))))))))))))))))))) (fun h1 h1' => (.l (k2 h1))))))
def mCw_f (a : Nat) (b : Nat) (k : Nat) (n : Nat) (g : Nat) (i : Nat) (s : (List Card)) : (List Card) := ((s.set (a + i) (nth s (b + i))).set (b + i) (nth s (a + i)))
@[simp] abbrev Vic_3 (v1_ : Nat) (v2_ : Nat) (v3_ : Nat) (v4_ : Nat) (v5_ : Nat) : Fr := (mkF 38 [(0, (AV.osl 0 v1_ 9 0 v2_)), (1, (AV.int .i64 ((v3_ : Nat) : Int))), (2, (AV.int .i64 ((v4_ : Nat) : Int))), (3, (AV.int .i64 ((v5_ : Nat) : Int))), (10, (AV.int .i64 ((v5_ : Nat) : Int)))])
theorem mCw_loop (a : Nat) (b : Nat) (k : Nat) (n : Nat) (g : Nat) (hab : a + k ≤ b) (hb : b + k ≤ n) (hnb : n < 1048576)  (r_ : Nat) : ∀ (l : List Card) (i : Nat) (sF : (List Card)), i + r_ = k → n = l.length → sF = iter (mCw_f a b k n g) r_ i (l) →
    LoopTo (codeQ Try.prog (X mCw_ann) (loopOf Try.f161 0)) (some [0, 1, 2, 3, 10]) (some [0, 1, 2, 3, 10]) (Vic_2 g n a b k i) ([⟨g, 9, (List.map Card.row l), none⟩] : Heap) (.exit 0) (Vic_3 g n a b k) ([⟨g, 9, (List.map Card.row sF), none⟩] : Heap) := by
  induction r_ with
  | zero =>
    intro l i sF hi_ hn  hF
    obtain rfl : k = i := by omega
    have e_ : sF = (l) := hF
    refine mCw_step a b k n g l k hab hb hnb hn (Nat.le_refl _) (fun h => by simp at h <;> omega) (fun _ => ?_)
    first | done | rfl | (rw [e_]; done) | (rw [e_]; rfl)
  | succ r_ ih =>
    intro l i sF hi_ hn  hF
    refine mCw_step a b k n g l i hab hb hnb hn ow (fun h1 => ?_) (fun h => by simp at h <;> omega)
    · exact ih ((l.set (a + i) (nth l (b + i))).set (b + i) (nth l (a + i))) (i + 1) sF ow (by first | omega | assumption | (simp; done) | (simp; omega) | (simp [*]; done) | (simp [*]; omega))  (by rw [hF] <;> simp only [iter, mCw_f, if_true, Bool.false_eq_true, if_false])
set_option maxRecDepth 100000 in
theorem mCw_spec (f : Nat) (xs : List AV) (a b k n g : Nat) (l : List Card) (hxs : AV.bdds 1 xs = true) (hn : n = l.length) (hnb : n < 1048576) (hab : a + k ≤ b) (hb : b + k ≤ n) : ACalls Try.prog 161 [(.osl 0 g 9 0 n), (.int .i64 ((a : Nat) : Int)), (.int .i64 ((b : Nat) : Int)), (.int .i64 ((k : Nat) : Int)), (.func f xs)] ([⟨g, 9, (List.map Card.row l), none⟩] : Heap) ((AV.tup []), ([⟨g, 9, (List.map Card.row (swapL a b k l)), none⟩] : Heap)) :=
  specO (fn := Try.f161) (ann := mCw_ann) (Has.o Try.func161) (.r (.g (.loop (Vic_3 g n a b k) (show LoopTo (codeQ Try.prog (X mCw_ann) (loopOf Try.f161 0)) (some [0, 1, 2, 3, 10]) (some [0, 1, 2, 3, 10]) (mkF 38 [(0, (.osl 0 g 9 0 n)), (1, (.int .i64 ((a : Nat) : Int))), (2, (.int .i64 ((b : Nat) : Int))), (3, (.int .i64 ((k : Nat) : Int))), (10, (.int .i64 0))]) ([⟨g, 9, (List.map Card.row l), none⟩] : Heap) (.exit 0) (Vic_3 g n a b k) ([⟨g, 9, (List.map Card.row (swapL a b k l)), none⟩] : Heap) from (mCw_loop a b k n g hab hb hnb k l 0 (swapL a b k l) ow hn rfl)) (.f 1 (AV.tup []) (.e (AV.tup []))))))
theorem mCw_at (f : Nat) (xs : List AV) (a b k n g : Nat) (l : List Card) (hxs : AV.bdds 1 xs = true) (hn : n = l.length) (hnb : n < 1048576) (hab : a + k ≤ b) (hb : b + k ≤ n) (H : Heap) : ACalls Try.prog 161 [(.osl 0 g 9 0 n), (.int .i64 ((a : Nat) : Int)), (.int .i64 ((b : Nat) : Int)), (.int .i64 ((k : Nat) : Int)), (.func f xs)] (([⟨g, 9, (List.map Card.row l), none⟩] : Heap) ++ H) ((AV.tup []), ([⟨g, 9, (List.map Card.row (swapL a b k l)), none⟩] : Heap) ++ H) := (mCw_spec f xs a b k n g l hxs hn hnb hab hb).ext (by simp [AV.bdds, AV.bdd, *]) kr ob ob kr H
def mCr_ann : Ann := { base := 1, fin := some 1, live := [(2, [0, 2, 4, 10, 11])], out := [(2, [0, 2, 4, 10, 11])] }
@[simp] abbrev Vic_4 (v1_ : Nat) (v2_ : Nat) (v3_ : Nat) (v4_ : Nat) (v5_ : List Card) : Heap := [⟨v1_, 9, (List.map Card.row (swapL (v2_ - v3_) (v2_ + v4_ - v3_) v3_ v5_)), none⟩]
@[simp] abbrev Vic_5 (v1_ : Nat) (v2_ : Nat) (v3_ : Nat) (v4_ : Nat) (v5_ : List AV) (v6_ : Nat) (v7_ : Nat) : Fr := (mkF 58 [(0, (AV.osl 0 v1_ 9 0 v2_)), (2, (AV.int .i64 ((v3_ : Nat) : Int))), (4, (AV.func v4_ v5_)), (10, (AV.int .i64 ((v6_ : Nat) : Int))), (11, (AV.int .i64 ((v7_ : Nat) : Int)))])
set_option maxRecDepth 100000 in
theorem mCr_step (f : Nat) (xs : List AV) (p n g : Nat) (i j : Nat) (l : List Card) (hxs : AV.bdds 1 xs = true) (hn : n = l.length) (hnb : n < 1048576) (hi : 0 < i) (hj : 0 < j) (hip : i ≤ p) (hjp : p + j ≤ n) {eX : Ex} {FX : Fr} {HX : Heap} (k1 : (((i : Nat) : Int) != ((j : Nat) : Int)) = true → (decide (((i : Nat) : Int) > ((j : Nat) : Int))) = true → LoopTo (codeQ Try.prog (X mCr_ann) (loopOf Try.f160 0)) (some [0, 2, 4, 10, 11]) (some [0, 2, 4, 10, 11]) (mkF 58 [(0, (.osl 0 g 9 0 n)), (2, (.int .i64 ((p : Nat) : Int))), (4, (.func f xs)), (10, (.int .i64 ((i - j : Nat) : Int))), (11, (.int .i64 ((j : Nat) : Int)))]) ([⟨g, 9, (List.map Card.row (swapL (p - i) p j l)), none⟩] : Heap) eX FX HX) (k2 : (((i : Nat) : Int) != ((j : Nat) : Int)) = true → (decide (((i : Nat) : Int) > ((j : Nat) : Int))) = false → LoopTo (codeQ Try.prog (X mCr_ann) (loopOf Try.f160 0)) (some [0, 2, 4, 10, 11]) (some [0, 2, 4, 10, 11]) (mkF 58 [(0, (.osl 0 g 9 0 n)), (2, (.int .i64 ((p : Nat) : Int))), (4, (.func f xs)), (10, (.int .i64 ((i : Nat) : Int))), (11, (.int .i64 ((j - i : Nat) : Int)))]) (Vic_4 g p i j l) eX FX HX) (k3 : (((i : Nat) : Int) != ((j : Nat) : Int)) = false → ((.exit 0 : Ex), (Vic_5 g n p f xs i j), ([⟨g, 9, (List.map Card.row l), none⟩] : Heap)) = (eX, FX, HX)) : LoopTo (codeQ Try.prog (X mCr_ann) (loopOf Try.f160 0)) (some [0, 2, 4, 10, 11]) (some [0, 2, 4, 10, 11]) (Vic_5 g n p f xs i j) ([⟨g, 9, (List.map Card.row l), none⟩] : Heap) eX FX HX :=
  stepO (.r (.g (.two (((i : Nat) : Int) != ((j : Nat) : Int)) (fun h1 h1' => (.r (.g (.two (decide (((i : Nat) : Int) > ((j : Nat) : Int))) (fun h2 h2' => (.r (.y 3 (.int .i64 (IntKind.i64.wrap (((p : Nat) : Int) - ((i : Nat) : Int)))) (AV.int .i64 ((p - i : Nat) : Int)) (Yes.add ow ow ow) (.ch 7 ([⟨g, 9, (List.map Card.row (swapL (p - i) p j l)), none⟩] : Heap) (ACalls.pre (args' := [(AV.osl 0 g 9 0 n), (AV.int .i64 ((p - i : Nat) : Int)), (AV.int .i64 ((p : Nat) : Int)), (AV.int .i64 ((j : Nat) : Int)), (AV.func f xs)]) (mCw_at f xs (p - i) p j n g l (by first | exact hxs | omega) (by first | exact hxs | omega) (by first | exact hxs | omega) (by first | exact hxs | omega) (by first | exact hxs | omega) ([] : Heap)) ⟨AV.wk_refl_any _, AV.wk_refl_any _, AV.wk_refl_any _, AV.wk_refl_any _, AV.wk_refl_any _, trivial⟩) (.g (.r (.y 2 (.int .i64 (IntKind.i64.wrap (((i : Nat) : Int) - ((j : Nat) : Int)))) (AV.int .i64 ((i - j : Nat) : Int)) (Yes.add ow ow ow) (.g (.l (k1 h1 h2)))))))))) (fun h2 h2' => (.r (.y 3 (.int .i64 (IntKind.i64.wrap (((p : Nat) : Int) - ((i : Nat) : Int)))) (AV.int .i64 ((p - i : Nat) : Int)) (Yes.add ow ow ow) (.y 6 (.int .i64 (IntKind.i64.wrap (((p : Nat) : Int) + ((j : Nat) : Int)))) (AV.int .i64 ((p + j : Nat) : Int)) (Yes.add ow ow ow) (.y 8 (.int .i64 (IntKind.i64.wrap (((p + j : Nat) : Int) - ((i : Nat) : Int)))) (AV.int .i64 ((p + j - i : Nat) : Int)) (Yes.add ow ow ow) (.ch 11 (Vic_4 g p i j l) (ACalls.pre (args' := [(AV.osl 0 g 9 0 n), (AV.int .i64 ((p - i : Nat) : Int)), (AV.int .i64 ((p + j - i : Nat) : Int)), (AV.int .i64 ((i : Nat) : Int)), (AV.func f xs)]) (mCw_at f xs (p - i) (p + j - i) i n g l (by first | exact hxs | omega) (by first | exact hxs | omega) (by first | exact hxs | omega) (by first | exact hxs | omega) (by first | exact hxs | omega) ([] : Heap)) ⟨AV.wk_refl_any _, AV.wk_refl_any _, AV.wk_refl_any _, AV.wk_refl_any _, AV.wk_refl_any _, trivial⟩) (.g (.r (.y 2 (.int .i64 (IntKind.i64.wrap (((j : Nat) : Int) - ((i : Nat) : Int)))) (AV.int .i64 ((j - i : Nat) : Int)) (Yes.add ow ow ow) (.g (.l (k2 h1 h2)))))))))))))))) (fun h1 h1' => (.l (k3 h1))))))
theorem mCr_loop (f : Nat) (xs : List AV) (p n g : Nat) (hxs : AV.bdds 1 xs = true) (r : Nat) : ∀ (i j : Nat) (l : List Card), i + j ≤ r + 1 → n = l.length → n < 1048576 → 0 < i → 0 < j → i ≤ p → p + j ≤ n →
    LoopTo (codeQ Try.prog (X mCr_ann) (loopOf Try.f160 0)) (some [0, 2, 4, 10, 11]) (some [0, 2, 4, 10, 11]) (Vic_5 g n p f xs i j) ([⟨g, 9, (List.map Card.row l), none⟩] : Heap) (.exit 0) (mkF 58 [(0, (.osl 0 g 9 0 n)), (2, (.int .i64 ((p : Nat) : Int))), (4, (.func f xs)), (10, (.int .i64 (((rotS p r i j l).2 : Nat) : Int))), (11, (.int .i64 (((rotS p r i j l).2 : Nat) : Int)))]) ([⟨g, 9, (List.map Card.row ((rotS p r i j l).1)), none⟩] : Heap) := by
  induction r with
  | zero => intro i j l h1 hn hnb hi hj; omega
  | succ r ih =>
    intro i j l h1 hn hnb hi hj hip hjp
    refine mCr_step f xs p n g i j l hxs hn hnb hi hj hip hjp (fun h2 h3 => ?_) (fun h2 h3 => ?_) (fun h2 => ?_)
    · have h2' : i ≠ j := by simp at h2; omega
      have h3' : j < i := by simp at h3; omega
      simp only [rotS, if_neg h2', if_pos h3']
      exact ih (i - j) j _ ow (by rw [swapL_len ow ow]; exact hn) hnb ow hj ow hjp
    · have h2' : i ≠ j := by simp at h2; omega
      have h3' : ¬ j < i := by simp at h3; omega
      simp only [rotS, if_neg h2', if_neg h3']
      exact ih i (j - i) _ ow (by rw [swapL_len ow ow]; exact hn) hnb hi ow hip ow
    · have h2' : i = j := by simp at h2; omega
      simp only [rotS, if_pos h2']
      subst h2'
      rfl
@[simp] abbrev Vic_6 (v1_ : Nat) (v2_ : Nat) (v3_ : Nat) (v4_ : Nat) (v5_ : List AV) (v6_ : Nat) (v7_ : Nat) (v8_ : List Card) : Fr := (mkF 58 [(0, (AV.osl 0 v1_ 9 0 v2_)), (2, (AV.int .i64 ((v3_ : Nat) : Int))), (4, (AV.func v4_ v5_)), (10, (AV.int .i64 (((rotS v3_ (v3_ - v6_ + (v7_ - v3_)) (v3_ - v6_) (v7_ - v3_) v8_).2 : Nat) : Int))), (11, (AV.int .i64 (((rotS v3_ (v3_ - v6_ + (v7_ - v3_)) (v3_ - v6_) (v7_ - v3_) v8_).2 : Nat) : Int)))])
set_option maxRecDepth 100000 in
theorem mCr_spec (f : Nat) (xs : List AV) (a p b n g : Nat) (l : List Card) (hxs : AV.bdds 1 xs = true) (hn : n = l.length) (hnb : n < 1048576) (hap : a < p) (hpb : p < b) (hbn : b ≤ n) (hl2 : (rotS p (p - a + (b - p)) (p - a) (b - p) l).1.length = l.length) (hk : (rotS p (p - a + (b - p)) (p - a) (b - p) l).2 ≤ p - a) (hk2 : (rotS p (p - a + (b - p)) (p - a) (b - p) l).2 ≤ b - p) : ACalls Try.prog 160 [(.osl 0 g 9 0 n), (.int .i64 ((a : Nat) : Int)), (.int .i64 ((p : Nat) : Int)), (.int .i64 ((b : Nat) : Int)), (.func f xs)] ([⟨g, 9, (List.map Card.row l), none⟩] : Heap) ((AV.tup []), ([⟨g, 9, (List.map Card.row (rotL a p b l)), none⟩] : Heap)) :=
  specO (fn := Try.f160) (ann := mCr_ann) (Has.o Try.func160) (.r (.y 2 (.int .i64 (IntKind.i64.wrap (((p : Nat) : Int) - ((a : Nat) : Int)))) (AV.int .i64 ((p - a : Nat) : Int)) (Yes.add ow ow ow) (.g (.r (.y 2 (.int .i64 (IntKind.i64.wrap (((b : Nat) : Int) - ((p : Nat) : Int)))) (AV.int .i64 ((b - p : Nat) : Int)) (Yes.add ow ow ow) (.g (.loop (Vic_6 g n p f xs a b l) (show LoopTo (codeQ Try.prog (X mCr_ann) (loopOf Try.f160 0)) (some [0, 2, 4, 10, 11]) (some [0, 2, 4, 10, 11]) (mkF 58 [(0, (.osl 0 g 9 0 n)), (2, (.int .i64 ((p : Nat) : Int))), (4, (.func f xs)), (10, (.int .i64 ((p - a : Nat) : Int))), (11, (.int .i64 ((b - p : Nat) : Int)))]) ([⟨g, 9, (List.map Card.row l), none⟩] : Heap) (.exit 0) (Vic_6 g n p f xs a b l) ([⟨g, 9, (List.map Card.row ((rotS p (p - a + (b - p)) (p - a) (b - p) l).1)), none⟩] : Heap) from (mCr_loop f xs p n g hxs (p - a + (b - p)) (p - a) (b - p) l ow hn hnb ow ow ow ow)) (.r (.y 3 (.int .i64 (IntKind.i64.wrap (((p : Nat) : Int) - (((rotS p (p - a + (b - p)) (p - a) (b - p) l).2 : Nat) : Int)))) (AV.int .i64 ((p - ((rotS p (p - a + (b - p)) (p - a) (b - p) l).2) : Nat) : Int)) (Yes.add ow ow ow) (.ch 7 ([⟨g, 9, (List.map Card.row (swapL (p - ((rotS p (p - a + (b - p)) (p - a) (b - p) l).2)) p ((rotS p (p - a + (b - p)) (p - a) (b - p) l).2) ((rotS p (p - a + (b - p)) (p - a) (b - p) l).1))), none⟩] : Heap) (ACalls.pre (args' := [(.osl 0 g 9 0 n), (.int .i64 ((p - ((rotS p (p - a + (b - p)) (p - a) (b - p) l).2) : Nat) : Int)), (.int .i64 ((p : Nat) : Int)), (.int .i64 (((rotS p (p - a + (b - p)) (p - a) (b - p) l).2 : Nat) : Int)), (.func f xs)]) (mCw_at f xs (p - ((rotS p (p - a + (b - p)) (p - a) (b - p) l).2)) p ((rotS p (p - a + (b - p)) (p - a) (b - p) l).2) n g ((rotS p (p - a + (b - p)) (p - a) (b - p) l).1) (by first | exact hxs | omega) (by first | exact hxs | omega) (by first | exact hxs | omega) (by first | exact hxs | omega) (by first | exact hxs | omega) ([] : Heap)) ⟨AV.wk_refl_any _, AV.wk_refl_any _, AV.wk_refl_any _, AV.wk_refl_any _, AV.wk_refl_any _, trivial⟩) (.g (.f 1 (AV.tup []) (.e (AV.tup []))))))))))))))
theorem mCr_at (f : Nat) (xs : List AV) (a p b n g : Nat) (l : List Card) (hxs : AV.bdds 1 xs = true) (hn : n = l.length) (hnb : n < 1048576) (hap : a < p) (hpb : p < b) (hbn : b ≤ n) (hl2 : (rotS p (p - a + (b - p)) (p - a) (b - p) l).1.length = l.length) (hk : (rotS p (p - a + (b - p)) (p - a) (b - p) l).2 ≤ p - a) (hk2 : (rotS p (p - a + (b - p)) (p - a) (b - p) l).2 ≤ b - p) (H : Heap) : ACalls Try.prog 160 [(.osl 0 g 9 0 n), (.int .i64 ((a : Nat) : Int)), (.int .i64 ((p : Nat) : Int)), (.int .i64 ((b : Nat) : Int)), (.func f xs)] (([⟨g, 9, (List.map Card.row l), none⟩] : Heap) ++ H) ((AV.tup []), ([⟨g, 9, (List.map Card.row (rotL a p b l)), none⟩] : Heap) ++ H) := (mCr_spec f xs a p b n g l hxs hn hnb hap hpb hbn hl2 hk hk2).ext (by simp [AV.bdds, AV.bdd, *]) kr ob ob kr H
def sC_ann : Ann := { base := 1, fin := some 1, live := [(3, [0, 1, 4, 10, 11]), (9, [0, 10, 13]), (15, [0, 2, 4, 14, 15]), (21, [0, 14, 17]), (33, [0, 1, 2, 3, 4, 18, 19, 20, 21, 22])], out := [(3, [0, 1, 10]), (9, [0, 10, 13]), (15, [0, 2, 14]), (21, [0, 14, 17]), (33, [0, 1, 2, 3, 4, 18, 19, 20])] }
@[simp] abbrev Vic_7 (v1_ : Nat) (v2_ : Nat) (v3_ : Nat) (v4_ : Nat) (v5_ : List AV) (v6_ : Nat) (v7_ : Nat) : Fr := (mkF 220 [(0, (AV.osl 0 v1_ 9 0 v2_)), (1, (AV.int .i64 ((v3_ : Nat) : Int))), (4, (AV.func v4_ v5_)), (10, (AV.int .i64 ((v6_ : Nat) : Int))), (11, (AV.int .i64 ((v7_ : Nat) : Int)))])
set_option maxRecDepth 100000 in
theorem sCa_step (cmp : Card → Card → Int) (f : Nat) (xs : List AV) (hc : ∀ (x y : Card) (H : Heap), ACalls Try.prog f ([AV.agg (Card.row x), AV.agg (Card.row y)] ++ xs) H (AV.int .i64 (cmp x y), H)) (a n g : Nat) (l : List Card) (lo hi : Nat) (hn : n = l.length) (hnb : n < 1048576) (ha : a < n) (hlh : lo ≤ hi) (hhi : hi ≤ n) {eX : Ex} {FX : Fr} {HX : Heap} (k1 : (decide (((lo : Nat) : Int) < ((hi : Nat) : Int))) = true → (decide ((cmp (nth l ((lo + hi) / 2)) (nth l a)) < 0)) = true → LoopTo (codeQ Try.prog (X sC_ann) (loopOf Try.f157 0)) (some [0, 1, 4, 10, 11]) (some [0, 1, 10]) (mkF 220 [(0, (.osl 0 g 9 0 n)), (1, (.int .i64 ((a : Nat) : Int))), (4, (.func f xs)), (10, (.int .i64 ((((lo + hi) / 2) + 1 : Nat) : Int))), (11, (.int .i64 ((hi : Nat) : Int)))]) ([⟨g, 9, (List.map Card.row l), none⟩] : Heap) eX FX HX) (k2 : (decide (((lo : Nat) : Int) < ((hi : Nat) : Int))) = true → (decide ((cmp (nth l ((lo + hi) / 2)) (nth l a)) < 0)) = false → LoopTo (codeQ Try.prog (X sC_ann) (loopOf Try.f157 0)) (some [0, 1, 4, 10, 11]) (some [0, 1, 10]) (mkF 220 [(0, (.osl 0 g 9 0 n)), (1, (.int .i64 ((a : Nat) : Int))), (4, (.func f xs)), (10, (.int .i64 ((lo : Nat) : Int))), (11, (.int .i64 ((((lo + hi) / 2) : Nat) : Int)))]) ([⟨g, 9, (List.map Card.row l), none⟩] : Heap) eX FX HX) (k3 : (decide (((lo : Nat) : Int) < ((hi : Nat) : Int))) = false → ((.exit 0 : Ex), (mkF 220 [(0, (.osl 0 g 9 0 n)), (1, (.int .i64 ((a : Nat) : Int))), (10, (.int .i64 ((lo : Nat) : Int)))]), ([⟨g, 9, (List.map Card.row l), none⟩] : Heap)) = (eX, FX, HX)) : LoopTo (codeQ Try.prog (X sC_ann) (loopOf Try.f157 0)) (some [0, 1, 4, 10, 11]) (some [0, 1, 10]) (Vic_7 g n a f xs lo hi) ([⟨g, 9, (List.map Card.row l), none⟩] : Heap) eX FX HX :=
  stepO (.r (.g (.two (decide (((lo : Nat) : Int) < ((hi : Nat) : Int))) (fun h1 h1' => (.r (.y 2 (.int .i64 (IntKind.i64.wrap (((lo : Nat) : Int) + ((hi : Nat) : Int)))) (AV.int .i64 ((lo + hi : Nat) : Int)) (Yes.add ow ow ow) (.y 5 (AV.int .i64 (IntKind.i64.wrap (Int.fdiv (IntKind.u64.wrap ((lo + hi : Nat) : Int)) (2 ^ (min (Int.toNat 1) 64))))) (AV.int .i64 ((((lo + hi) / 2) : Nat) : Int)) (Yes.int (half_nat ow (rfl))) (.g (.r (.io 3 0 g 9 9 0 n ((((lo + hi) / 2) : Nat) : Int) ((lo + hi) / 2) (IdxOsl.mk _ ow ow) (.t 4 (AV.agg (Card.row (nth l ((lo + hi) / 2)))) ([⟨g, 9, (List.map Card.row l), none⟩] : Heap) (load_row (rowAt_map (row := Card.row) (l := l) (k := 9) (room := none) kr om) kr : LoadTo tt 58 0 ([⟨g, 9, (List.map Card.row l), none⟩] : Heap) (rowAt ([⟨g, 9, (List.map Card.row l), none⟩] : Heap) 0 g ((lo + hi) / 2)) = some ((AV.agg (Card.row (nth l ((lo + hi) / 2)))), ([⟨g, 9, (List.map Card.row l), none⟩] : Heap))) (.io 7 0 g 9 9 0 n ((a : Nat) : Int) a (IdxOsl.mk _ ow ow) (.t 8 (AV.agg (Card.row (nth l a))) ([⟨g, 9, (List.map Card.row l), none⟩] : Heap) (load_row (rowAt_map (row := Card.row) (l := l) (k := 9) (room := none) kr om) kr : LoadTo tt 58 0 ([⟨g, 9, (List.map Card.row l), none⟩] : Heap) (rowAt ([⟨g, 9, (List.map Card.row l), none⟩] : Heap) 0 g a) = some ((AV.agg (Card.row (nth l a))), ([⟨g, 9, (List.map Card.row l), none⟩] : Heap))) (.c 9 (hc (nth l ((lo + hi) / 2)) (nth l a) ([⟨g, 9, (List.map Card.row l), none⟩] : Heap)) (.g (.two (decide ((cmp (nth l ((lo + hi) / 2)) (nth l a)) < 0)) (fun h2 h2' => (.r (.y 1 (.int .i64 (IntKind.i64.wrap (((((lo + hi) / 2) : Nat) : Int) + 1))) (AV.int .i64 ((((lo + hi) / 2) + 1 : Nat) : Int)) (Yes.add ow ow ow) (.g (.l (k1 h1 h2)))))) (fun h2 h2' => (.r (.g (.l (k2 h1 h2)))))))))))))))))) (fun h1 h1' => (.l (k3 h1))))))
theorem sCa_loop (cmp : Card → Card → Int) (f : Nat) (xs : List AV) (hc : ∀ (x y : Card) (H : Heap), ACalls Try.prog f ([AV.agg (Card.row x), AV.agg (Card.row y)] ++ xs) H (AV.int .i64 (cmp x y), H)) (a n g : Nat) (l : List Card) (hn : n = l.length) (hnb : n < 1048576) (ha : a < n) (r : Nat) : ∀ (lo hi : Nat), hi - lo ≤ r → lo ≤ hi → hi ≤ n →
    LoopTo (codeQ Try.prog (X sC_ann) (loopOf Try.f157 0)) (some [0, 1, 4, 10, 11]) (some [0, 1, 10]) (Vic_7 g n a f xs lo hi) ([⟨g, 9, (List.map Card.row l), none⟩] : Heap) (.exit 0) (mkF 220 [(0, (.osl 0 g 9 0 n)), (1, (.int .i64 ((a : Nat) : Int))), (10, (.int .i64 (((bsr (fun c => decide (cmp (nth l c) (nth l a) < 0)) r lo hi) : Nat) : Int)))]) ([⟨g, 9, (List.map Card.row l), none⟩] : Heap) := by
  induction r with
  | zero =>
    intro lo hi h1 h2 h3
    obtain rfl : lo = hi := by omega
    refine sCa_step cmp f xs hc a n g l lo lo hn hnb ha h2 h3 (fun h _ => by simp at h) (fun h _ => by simp at h) (fun _ => ?_)
    simp only [bsr]
  | succ r ih =>
    intro lo hi h1 h2 h3
    refine sCa_step cmp f xs hc a n g l lo hi hn hnb ha h2 h3 (fun h4 h5 => ?_) (fun h4 h5 => ?_) (fun h4 => ?_)
    · have h4' : lo < hi := by simp at h4; omega
      simp only [bsr, if_pos h4']
      rw [if_pos (by simpa using h5)]
      exact ih ((lo + hi) / 2 + 1) hi ow ow ow
    · have h4' : lo < hi := by simp at h4; omega
      simp only [bsr, if_pos h4']
      rw [if_neg (by simpa using h5)]
      exact ih lo ((lo + hi) / 2) ow ow ow
    · have h4' : ¬ lo < hi := by simp at h4; omega
      simp only [bsr, if_neg h4']
@[simp] abbrev Vic_8 (v1_ : Nat) (v2_ : Nat) (v3_ : Nat) (v4_ : Nat) (v5_ : List AV) (v6_ : Nat) (v7_ : Nat) : Fr := (mkF 220 [(0, (AV.osl 0 v1_ 9 0 v2_)), (2, (AV.int .i64 ((v3_ : Nat) : Int))), (4, (AV.func v4_ v5_)), (14, (AV.int .i64 ((v6_ : Nat) : Int))), (15, (AV.int .i64 ((v7_ : Nat) : Int)))])
set_option maxRecDepth 100000 in
theorem sCb_step (cmp : Card → Card → Int) (f : Nat) (xs : List AV) (hc : ∀ (x y : Card) (H : Heap), ACalls Try.prog f ([AV.agg (Card.row x), AV.agg (Card.row y)] ++ xs) H (AV.int .i64 (cmp x y), H)) (p n g : Nat) (l : List Card) (lo hi : Nat) (hn : n = l.length) (hnb : n < 1048576) (ha : p < n) (hlh : lo ≤ hi) (hhi : hi ≤ n) {eX : Ex} {FX : Fr} {HX : Heap} (k1 : (decide (((lo : Nat) : Int) < ((hi : Nat) : Int))) = true → (!(decide ((cmp (nth l p) (nth l ((lo + hi) / 2))) < 0))) = true → LoopTo (codeQ Try.prog (X sC_ann) (loopOf Try.f157 2)) (some [0, 2, 4, 14, 15]) (some [0, 2, 14]) (mkF 220 [(0, (.osl 0 g 9 0 n)), (2, (.int .i64 ((p : Nat) : Int))), (4, (.func f xs)), (14, (.int .i64 ((((lo + hi) / 2) + 1 : Nat) : Int))), (15, (.int .i64 ((hi : Nat) : Int)))]) ([⟨g, 9, (List.map Card.row l), none⟩] : Heap) eX FX HX) (k2 : (decide (((lo : Nat) : Int) < ((hi : Nat) : Int))) = true → (!(decide ((cmp (nth l p) (nth l ((lo + hi) / 2))) < 0))) = false → LoopTo (codeQ Try.prog (X sC_ann) (loopOf Try.f157 2)) (some [0, 2, 4, 14, 15]) (some [0, 2, 14]) (mkF 220 [(0, (.osl 0 g 9 0 n)), (2, (.int .i64 ((p : Nat) : Int))), (4, (.func f xs)), (14, (.int .i64 ((lo : Nat) : Int))), (15, (.int .i64 ((((lo + hi) / 2) : Nat) : Int)))]) ([⟨g, 9, (List.map Card.row l), none⟩] : Heap) eX FX HX) (k3 : (decide (((lo : Nat) : Int) < ((hi : Nat) : Int))) = false → ((.exit 4 : Ex), (mkF 220 [(0, (.osl 0 g 9 0 n)), (2, (.int .i64 ((p : Nat) : Int))), (14, (.int .i64 ((lo : Nat) : Int)))]), ([⟨g, 9, (List.map Card.row l), none⟩] : Heap)) = (eX, FX, HX)) : LoopTo (codeQ Try.prog (X sC_ann) (loopOf Try.f157 2)) (some [0, 2, 4, 14, 15]) (some [0, 2, 14]) (Vic_8 g n p f xs lo hi) ([⟨g, 9, (List.map Card.row l), none⟩] : Heap) eX FX HX :=
  stepO (.r (.g (.two (decide (((lo : Nat) : Int) < ((hi : Nat) : Int))) (fun h1 h1' => (.r (.y 2 (.int .i64 (IntKind.i64.wrap (((lo : Nat) : Int) + ((hi : Nat) : Int)))) (AV.int .i64 ((lo + hi : Nat) : Int)) (Yes.add ow ow ow) (.y 5 (AV.int .i64 (IntKind.i64.wrap (Int.fdiv (IntKind.u64.wrap ((lo + hi : Nat) : Int)) (2 ^ (min (Int.toNat 1) 64))))) (AV.int .i64 ((((lo + hi) / 2) : Nat) : Int)) (Yes.int (half_nat ow (rfl))) (.g (.r (.io 3 0 g 9 9 0 n ((p : Nat) : Int) p (IdxOsl.mk _ ow ow) (.t 4 (AV.agg (Card.row (nth l p))) ([⟨g, 9, (List.map Card.row l), none⟩] : Heap) (load_row (rowAt_map (row := Card.row) (l := l) (k := 9) (room := none) kr om) kr : LoadTo tt 58 0 ([⟨g, 9, (List.map Card.row l), none⟩] : Heap) (rowAt ([⟨g, 9, (List.map Card.row l), none⟩] : Heap) 0 g p) = some ((AV.agg (Card.row (nth l p))), ([⟨g, 9, (List.map Card.row l), none⟩] : Heap))) (.io 7 0 g 9 9 0 n ((((lo + hi) / 2) : Nat) : Int) ((lo + hi) / 2) (IdxOsl.mk _ ow ow) (.t 8 (AV.agg (Card.row (nth l ((lo + hi) / 2)))) ([⟨g, 9, (List.map Card.row l), none⟩] : Heap) (load_row (rowAt_map (row := Card.row) (l := l) (k := 9) (room := none) kr om) kr : LoadTo tt 58 0 ([⟨g, 9, (List.map Card.row l), none⟩] : Heap) (rowAt ([⟨g, 9, (List.map Card.row l), none⟩] : Heap) 0 g ((lo + hi) / 2)) = some ((AV.agg (Card.row (nth l ((lo + hi) / 2)))), ([⟨g, 9, (List.map Card.row l), none⟩] : Heap))) (.c 9 (hc (nth l p) (nth l ((lo + hi) / 2)) ([⟨g, 9, (List.map Card.row l), none⟩] : Heap)) (.g (.two (!(decide ((cmp (nth l p) (nth l ((lo + hi) / 2))) < 0))) (fun h2 h2' => (.r (.y 1 (.int .i64 (IntKind.i64.wrap (((((lo + hi) / 2) : Nat) : Int) + 1))) (AV.int .i64 ((((lo + hi) / 2) + 1 : Nat) : Int)) (Yes.add ow ow ow) (.g (.l (k1 h1 h2)))))) (fun h2 h2' => (.r (.g (.l (k2 h1 h2)))))))))))))))))) (fun h1 h1' => (.l (k3 h1))))))
theorem sCb_loop (cmp : Card → Card → Int) (f : Nat) (xs : List AV) (hc : ∀ (x y : Card) (H : Heap), ACalls Try.prog f ([AV.agg (Card.row x), AV.agg (Card.row y)] ++ xs) H (AV.int .i64 (cmp x y), H)) (p n g : Nat) (l : List Card) (hn : n = l.length) (hnb : n < 1048576) (ha : p < n) (r : Nat) : ∀ (lo hi : Nat), hi - lo ≤ r → lo ≤ hi → hi ≤ n →
    LoopTo (codeQ Try.prog (X sC_ann) (loopOf Try.f157 2)) (some [0, 2, 4, 14, 15]) (some [0, 2, 14]) (Vic_8 g n p f xs lo hi) ([⟨g, 9, (List.map Card.row l), none⟩] : Heap) (.exit 4) (mkF 220 [(0, (.osl 0 g 9 0 n)), (2, (.int .i64 ((p : Nat) : Int))), (14, (.int .i64 (((bsr (fun c => !decide (cmp (nth l p) (nth l c) < 0)) r lo hi) : Nat) : Int)))]) ([⟨g, 9, (List.map Card.row l), none⟩] : Heap) := by
  induction r with
  | zero =>
    intro lo hi h1 h2 h3
    obtain rfl : lo = hi := by omega
    refine sCb_step cmp f xs hc p n g l lo lo hn hnb ha h2 h3 (fun h _ => by simp at h) (fun h _ => by simp at h) (fun _ => ?_)
    simp only [bsr]
  | succ r ih =>
    intro lo hi h1 h2 h3
    refine sCb_step cmp f xs hc p n g l lo hi hn hnb ha h2 h3 (fun h4 h5 => ?_) (fun h4 h5 => ?_) (fun h4 => ?_)
    · have h4' : lo < hi := by simp at h4; omega
      simp only [bsr, if_pos h4']
      rw [if_pos (by simpa using h5)]
      exact ih ((lo + hi) / 2 + 1) hi ow ow ow
    · have h4' : lo < hi := by simp at h4; omega
      simp only [bsr, if_pos h4']
      rw [if_neg (by simpa using h5)]
      exact ih lo ((lo + hi) / 2) ow ow ow
    · have h4' : ¬ lo < hi := by simp at h4; omega
      simp only [bsr, if_neg h4']
@[simp] abbrev Vic_9 (v1_ : Nat) (v2_ : Nat) (v3_ : Nat) (v4_ : Nat) (v5_ : Nat) (v6_ : Nat) (v7_ : List AV) (v8_ : Nat) (v9_ : Nat) (v10_ : Nat) (v11_ : Nat) (v12_ : Nat) : Fr := (mkF 220 [(0, (AV.osl 0 v1_ 9 0 v2_)), (1, (AV.int .i64 ((v3_ : Nat) : Int))), (2, (AV.int .i64 ((v4_ : Nat) : Int))), (3, (AV.int .i64 ((v5_ : Nat) : Int))), (4, (AV.func v6_ v7_)), (18, (AV.int .i64 ((v8_ : Nat) : Int))), (19, (AV.int .i64 ((v9_ : Nat) : Int))), (20, (AV.int .i64 ((v10_ : Nat) : Int))), (21, (AV.int .i64 ((v11_ : Nat) : Int))), (22, (AV.int .i64 ((v12_ : Nat) : Int)))])
set_option maxRecDepth 100000 in
theorem sCc_step (cmp : Card → Card → Int) (f : Nat) (xs : List AV) (hc : ∀ (x y : Card) (H : Heap), ACalls Try.prog f ([AV.agg (Card.row x), AV.agg (Card.row y)] ++ xs) H (AV.int .i64 (cmp x y), H)) (a p b mid nn q n g : Nat) (l : List Card) (lo hi : Nat) (hn : n = l.length) (hnb : n < 1048576) (hlh : lo ≤ hi) (hhi : hi ≤ n ∧ hi ≤ q + 1 ∧ q < n + lo) {eX : Ex} {FX : Fr} {HX : Heap} (k1 : (decide (((lo : Nat) : Int) < ((hi : Nat) : Int))) = true → (!(decide ((cmp (nth l (q - ((lo + hi) / 2))) (nth l ((lo + hi) / 2))) < 0))) = true → LoopTo (codeQ Try.prog (X sC_ann) (loopOf Try.f157 4)) (some [0, 1, 2, 3, 4, 18, 19, 20, 21, 22]) (some [0, 1, 2, 3, 4, 18, 19, 20]) (mkF 220 [(0, (.osl 0 g 9 0 n)), (1, (.int .i64 ((a : Nat) : Int))), (2, (.int .i64 ((p : Nat) : Int))), (3, (.int .i64 ((b : Nat) : Int))), (4, (.func f xs)), (18, (.int .i64 ((mid : Nat) : Int))), (19, (.int .i64 ((nn : Nat) : Int))), (20, (.int .i64 ((((lo + hi) / 2) + 1 : Nat) : Int))), (21, (.int .i64 ((hi : Nat) : Int))), (22, (.int .i64 ((q : Nat) : Int)))]) ([⟨g, 9, (List.map Card.row l), none⟩] : Heap) eX FX HX) (k2 : (decide (((lo : Nat) : Int) < ((hi : Nat) : Int))) = true → (!(decide ((cmp (nth l (q - ((lo + hi) / 2))) (nth l ((lo + hi) / 2))) < 0))) = false → LoopTo (codeQ Try.prog (X sC_ann) (loopOf Try.f157 4)) (some [0, 1, 2, 3, 4, 18, 19, 20, 21, 22]) (some [0, 1, 2, 3, 4, 18, 19, 20]) (mkF 220 [(0, (.osl 0 g 9 0 n)), (1, (.int .i64 ((a : Nat) : Int))), (2, (.int .i64 ((p : Nat) : Int))), (3, (.int .i64 ((b : Nat) : Int))), (4, (.func f xs)), (18, (.int .i64 ((mid : Nat) : Int))), (19, (.int .i64 ((nn : Nat) : Int))), (20, (.int .i64 ((lo : Nat) : Int))), (21, (.int .i64 ((((lo + hi) / 2) : Nat) : Int))), (22, (.int .i64 ((q : Nat) : Int)))]) ([⟨g, 9, (List.map Card.row l), none⟩] : Heap) eX FX HX) (k3 : (decide (((lo : Nat) : Int) < ((hi : Nat) : Int))) = false → ((.exit 8 : Ex), (mkF 220 [(0, (.osl 0 g 9 0 n)), (1, (.int .i64 ((a : Nat) : Int))), (2, (.int .i64 ((p : Nat) : Int))), (3, (.int .i64 ((b : Nat) : Int))), (4, (.func f xs)), (18, (.int .i64 ((mid : Nat) : Int))), (19, (.int .i64 ((nn : Nat) : Int))), (20, (.int .i64 ((lo : Nat) : Int)))]), ([⟨g, 9, (List.map Card.row l), none⟩] : Heap)) = (eX, FX, HX)) : LoopTo (codeQ Try.prog (X sC_ann) (loopOf Try.f157 4)) (some [0, 1, 2, 3, 4, 18, 19, 20, 21, 22]) (some [0, 1, 2, 3, 4, 18, 19, 20]) (Vic_9 g n a p b f xs mid nn lo hi q) ([⟨g, 9, (List.map Card.row l), none⟩] : Heap) eX FX HX :=
  stepO (.r (.g (.two (decide (((lo : Nat) : Int) < ((hi : Nat) : Int))) (fun h1 h1' => (.r (.y 2 (.int .i64 (IntKind.i64.wrap (((lo : Nat) : Int) + ((hi : Nat) : Int)))) (AV.int .i64 ((lo + hi : Nat) : Int)) (Yes.add ow ow ow) (.y 5 (AV.int .i64 (IntKind.i64.wrap (Int.fdiv (IntKind.u64.wrap ((lo + hi : Nat) : Int)) (2 ^ (min (Int.toNat 1) 64))))) (AV.int .i64 ((((lo + hi) / 2) : Nat) : Int)) (Yes.int (half_nat ow (rfl))) (.g (.r (.y 4 (.int .i64 (IntKind.i64.wrap (((q : Nat) : Int) - ((((lo + hi) / 2) : Nat) : Int)))) (AV.int .i64 ((q - ((lo + hi) / 2) : Nat) : Int)) (Yes.add ow ow ow) (.io 5 0 g 9 9 0 n ((q - ((lo + hi) / 2) : Nat) : Int) (q - ((lo + hi) / 2)) (IdxOsl.mk _ ow ow) (.t 6 (AV.agg (Card.row (nth l (q - ((lo + hi) / 2))))) ([⟨g, 9, (List.map Card.row l), none⟩] : Heap) (load_row (rowAt_map (row := Card.row) (l := l) (k := 9) (room := none) kr om) kr : LoadTo tt 58 0 ([⟨g, 9, (List.map Card.row l), none⟩] : Heap) (rowAt ([⟨g, 9, (List.map Card.row l), none⟩] : Heap) 0 g (q - ((lo + hi) / 2))) = some ((AV.agg (Card.row (nth l (q - ((lo + hi) / 2))))), ([⟨g, 9, (List.map Card.row l), none⟩] : Heap))) (.io 9 0 g 9 9 0 n ((((lo + hi) / 2) : Nat) : Int) ((lo + hi) / 2) (IdxOsl.mk _ ow ow) (.t 10 (AV.agg (Card.row (nth l ((lo + hi) / 2)))) ([⟨g, 9, (List.map Card.row l), none⟩] : Heap) (load_row (rowAt_map (row := Card.row) (l := l) (k := 9) (room := none) kr om) kr : LoadTo tt 58 0 ([⟨g, 9, (List.map Card.row l), none⟩] : Heap) (rowAt ([⟨g, 9, (List.map Card.row l), none⟩] : Heap) 0 g ((lo + hi) / 2)) = some ((AV.agg (Card.row (nth l ((lo + hi) / 2)))), ([⟨g, 9, (List.map Card.row l), none⟩] : Heap))) (.c 11 (hc (nth l (q - ((lo + hi) / 2))) (nth l ((lo + hi) / 2)) ([⟨g, 9, (List.map Card.row l), none⟩] : Heap)) (.g (.two (!(decide ((cmp (nth l (q - ((lo + hi) / 2))) (nth l ((lo + hi) / 2))) < 0))) (fun h2 h2' => (.r (.y 1 (.int .i64 (IntKind.i64.wrap (((((lo + hi) / 2) : Nat) : Int) + 1))) (AV.int .i64 ((((lo + hi) / 2) + 1 : Nat) : Int)) (Yes.add ow ow ow) (.g (.l (k1 h1 h2)))))) (fun h2 h2' => (.r (.g (.l (k2 h1 h2))))))))))))))))))) (fun h1 h1' => (.l (k3 h1))))))
theorem sCc_loop (cmp : Card → Card → Int) (f : Nat) (xs : List AV) (hc : ∀ (x y : Card) (H : Heap), ACalls Try.prog f ([AV.agg (Card.row x), AV.agg (Card.row y)] ++ xs) H (AV.int .i64 (cmp x y), H)) (a p b mid nn q n g : Nat) (l : List Card) (hn : n = l.length) (hnb : n < 1048576) (r : Nat) : ∀ (lo hi : Nat), hi - lo ≤ r → lo ≤ hi → hi ≤ n ∧ hi ≤ q + 1 ∧ q < n + lo →
    LoopTo (codeQ Try.prog (X sC_ann) (loopOf Try.f157 4)) (some [0, 1, 2, 3, 4, 18, 19, 20, 21, 22]) (some [0, 1, 2, 3, 4, 18, 19, 20]) (Vic_9 g n a p b f xs mid nn lo hi q) ([⟨g, 9, (List.map Card.row l), none⟩] : Heap) (.exit 8) (mkF 220 [(0, (.osl 0 g 9 0 n)), (1, (.int .i64 ((a : Nat) : Int))), (2, (.int .i64 ((p : Nat) : Int))), (3, (.int .i64 ((b : Nat) : Int))), (4, (.func f xs)), (18, (.int .i64 ((mid : Nat) : Int))), (19, (.int .i64 ((nn : Nat) : Int))), (20, (.int .i64 (((bsr (fun c => !decide (cmp (nth l (q - c)) (nth l c) < 0)) r lo hi) : Nat) : Int)))]) ([⟨g, 9, (List.map Card.row l), none⟩] : Heap) := by
  induction r with
  | zero =>
    intro lo hi h1 h2 h3
    obtain rfl : lo = hi := by omega
    refine sCc_step cmp f xs hc a p b mid nn q n g l lo lo hn hnb h2 h3 (fun h _ => by simp at h) (fun h _ => by simp at h) (fun _ => ?_)
    simp only [bsr]
  | succ r ih =>
    intro lo hi h1 h2 h3
    refine sCc_step cmp f xs hc a p b mid nn q n g l lo hi hn hnb h2 h3 (fun h4 h5 => ?_) (fun h4 h5 => ?_) (fun h4 => ?_)
    · have h4' : lo < hi := by simp at h4; omega
      simp only [bsr, if_pos h4']
      rw [if_pos (by simpa using h5)]
      exact ih ((lo + hi) / 2 + 1) hi ow ow ow
    · have h4' : lo < hi := by simp at h4; omega
      simp only [bsr, if_pos h4']
      rw [if_neg (by simpa using h5)]
      exact ih lo ((lo + hi) / 2) ow ow ow
    · have h4' : ¬ lo < hi := by simp at h4; omega
      simp only [bsr, if_neg h4']
@[simp] abbrev Vic_10 (v1_ : Nat) (v2_ : List Card) (v3_ : Nat) : Heap := [⟨v1_, 9, (List.map Card.row ((v2_.set v3_ (nth v2_ (v3_ + 1))).set (v3_ + 1) (nth v2_ v3_))), none⟩]
@[simp] abbrev Vic_11 (v1_ : Nat) (v2_ : Nat) (v3_ : Nat) (v4_ : Nat) : Fr := (mkF 220 [(0, (AV.osl 0 v1_ 9 0 v2_)), (10, (AV.int .i64 ((v3_ : Nat) : Int))), (13, (AV.int .i64 ((v4_ : Nat) : Int)))])
set_option maxRecDepth 100000 in
theorem sCu_step (i : Nat) (n : Nat) (g : Nat) (l : List Card) (kk : Nat) (hi1 : 1 ≤ i) (hin : i ≤ n) (hnb : n < 1048576) (hn : n = l.length) (hle_ : kk ≤ (i - 1)) {eX : Ex} {FX : Fr} {HX : Heap} (k1 : (decide (((kk : Nat) : Int) < ((i - 1 : Nat) : Int))) = true → LoopTo (codeQ Try.prog (X sC_ann) (loopOf Try.f157 1)) (some [0, 10, 13]) (some [0, 10, 13]) (mkF 220 [(0, (.osl 0 g 9 0 n)), (10, (.int .i64 ((i : Nat) : Int))), (13, (.int .i64 ((kk + 1 : Nat) : Int)))]) (Vic_10 g l kk) eX FX HX) (k2 : (decide (((kk : Nat) : Int) < ((i - 1 : Nat) : Int))) = false → ((.exit 2 : Ex), (Vic_11 g n i kk), ([⟨g, 9, (List.map Card.row l), none⟩] : Heap)) = (eX, FX, HX)) : LoopTo (codeQ Try.prog (X sC_ann) (loopOf Try.f157 1)) (some [0, 10, 13]) (some [0, 10, 13]) (Vic_11 g n i kk) ([⟨g, 9, (List.map Card.row l), none⟩] : Heap) eX FX HX :=
  stepO (.r (.y 2 (.int .i64 (IntKind.i64.wrap (((i : Nat) : Int) - 1))) (AV.int .i64 ((i - 1 : Nat) : Int)) (Yes.add ow ow ow) (.g (.two (decide (((kk : Nat) : Int) < ((i - 1 : Nat) : Int))) (fun h1 h1' => (.r (.y 4 (.int .i64 (IntKind.i64.wrap (((kk : Nat) : Int) + 1))) (AV.int .i64 ((kk + 1 : Nat) : Int)) (Yes.add ow ow ow) (.y 7 (.int .i64 (IntKind.i64.wrap (((kk : Nat) : Int) + 1))) (AV.int .i64 ((kk + 1 : Nat) : Int)) (Yes.add ow ow ow) (.io 8 0 g 9 9 0 n ((kk + 1 : Nat) : Int) (kk + 1) (IdxOsl.mk _ ow ow) (.t 9 (AV.agg (Card.row (nth l (kk + 1)))) ([⟨g, 9, (List.map Card.row l), none⟩] : Heap) (load_row (rowAt_map (row := Card.row) (l := l) (k := 9) (room := none) kr om) kr : LoadTo tt 58 0 ([⟨g, 9, (List.map Card.row l), none⟩] : Heap) (rowAt ([⟨g, 9, (List.map Card.row l), none⟩] : Heap) 0 g (kk + 1)) = some ((AV.agg (Card.row (nth l (kk + 1)))), ([⟨g, 9, (List.map Card.row l), none⟩] : Heap))) (.io 12 0 g 9 9 0 n ((kk : Nat) : Int) kk (IdxOsl.mk _ ow ow) (.t 13 (AV.agg (Card.row (nth l kk))) ([⟨g, 9, (List.map Card.row l), none⟩] : Heap) (load_row (rowAt_map (row := Card.row) (l := l) (k := 9) (room := none) kr om) kr : LoadTo tt 58 0 ([⟨g, 9, (List.map Card.row l), none⟩] : Heap) (rowAt ([⟨g, 9, (List.map Card.row l), none⟩] : Heap) 0 g kk) = some ((AV.agg (Card.row (nth l kk))), ([⟨g, 9, (List.map Card.row l), none⟩] : Heap))) (.io 14 0 g 9 9 0 n ((kk : Nat) : Int) kk (IdxOsl.mk _ ow ow) (.st 15 0 g kk 9 0 (AV.agg (Card.row (nth l (kk + 1)))) ([⟨g, 9, (List.map Card.row (l.set kk (nth l (kk + 1)))), none⟩] : Heap) (store_row (us := (Card.row (nth l (kk + 1)))) (rowAt_map (row := Card.row) (l := l) (k := 9) (room := none) kr om) kr (by simp [Card.row]) (by simp [setAt, fillAt, List.map_set, Card.row])) (.io 16 0 g 9 9 0 n ((kk + 1 : Nat) : Int) (kk + 1) (IdxOsl.mk _ ow ow) (.st 17 0 g (kk + 1) 9 0 (AV.agg (Card.row (nth l kk))) (Vic_10 g l kk) (store_row (us := (Card.row (nth l kk))) (rowAt_map (row := Card.row) (l := l.set kk (nth l (kk + 1))) (k := 9) (room := none) kr om) kr (by simp [Card.row]) (by simp [setAt, fillAt, List.map_set, Card.row])) (.g (.r (.y 1 (.int .i64 (IntKind.i64.wrap (((kk : Nat) : Int) + 1))) (AV.int .i64 ((kk + 1 : Nat) : Int)) (Yes.add ow ow ow) (.g (.l (k1 h1)))))))))))))))))) (fun h1 h1' => (.l (k2 h1)))))))
def sCu_f (i : Nat) (n : Nat) (g : Nat) (kk : Nat) (s : (List Card)) : (List Card) := ((s.set kk (nth s (kk + 1))).set (kk + 1) (nth s kk))
theorem sCu_loop (i : Nat) (n : Nat) (g : Nat) (hi1 : 1 ≤ i) (hin : i ≤ n) (hnb : n < 1048576)  (r_ : Nat) : ∀ (l : List Card) (kk : Nat) (sF : (List Card)), kk + r_ = (i - 1) → n = l.length → sF = iter (sCu_f i n g) r_ kk (l) →
    LoopTo (codeQ Try.prog (X sC_ann) (loopOf Try.f157 1)) (some [0, 10, 13]) (some [0, 10, 13]) (Vic_11 g n i kk) ([⟨g, 9, (List.map Card.row l), none⟩] : Heap) (.exit 2) (mkF 220 [(0, (.osl 0 g 9 0 n)), (10, (.int .i64 ((i : Nat) : Int))), (13, (.int .i64 (((i - 1) : Nat) : Int)))]) ([⟨g, 9, (List.map Card.row sF), none⟩] : Heap) := by
  induction r_ with
  | zero =>
    intro l kk sF hi_ hn  hF
    obtain rfl : (i - 1) = kk := by omega
    have e_ : sF = (l) := hF
    refine sCu_step i n g l (i - 1) hi1 hin hnb hn (Nat.le_refl _) (fun h => by simp at h <;> omega) (fun _ => ?_)
    first | done | rfl | (rw [e_]; done) | (rw [e_]; rfl)
  | succ r_ ih =>
    intro l kk sF hi_ hn  hF
    refine sCu_step i n g l kk hi1 hin hnb hn ow (fun h1 => ?_) (fun h => by simp at h <;> omega)
    · exact ih ((l.set kk (nth l (kk + 1))).set (kk + 1) (nth l kk)) (kk + 1) sF ow (by first | omega | assumption | (simp; done) | (simp; omega) | (simp [*]; done) | (simp [*]; omega))  (by rw [hF] <;> simp only [iter, sCu_f, if_true, Bool.false_eq_true, if_false])
theorem sCu_iter (i n g r k : Nat) (l : List Card) : shU r k l = iter (sCu_f i n g) r k l := rfl
@[simp] abbrev Vic_12 (v1_ : Nat) (v2_ : List Card) (v3_ : Nat) : Heap := [⟨v1_, 9, (List.map Card.row ((v2_.set v3_ (nth v2_ (v3_ - 1))).set (v3_ - 1) (nth v2_ v3_))), none⟩]
@[simp] abbrev Vic_13 (v1_ : Nat) (v2_ : Nat) (v3_ : Nat) (v4_ : Nat) : Fr := (mkF 220 [(0, (AV.osl 0 v1_ 9 0 v2_)), (14, (AV.int .i64 ((v3_ : Nat) : Int))), (17, (AV.int .i64 ((v4_ : Nat) : Int)))])
set_option maxRecDepth 100000 in
theorem sCd_step (i kk n g : Nat) (l : List Card) (hn : n = l.length) (hnb : n < 1048576) (hk : kk < n) {eX : Ex} {FX : Fr} {HX : Heap} (k1 : (decide (((kk : Nat) : Int) > ((i : Nat) : Int))) = true → LoopTo (codeQ Try.prog (X sC_ann) (loopOf Try.f157 3)) (some [0, 14, 17]) (some [0, 14, 17]) (mkF 220 [(0, (.osl 0 g 9 0 n)), (14, (.int .i64 ((i : Nat) : Int))), (17, (.int .i64 ((kk - 1 : Nat) : Int)))]) (Vic_12 g l kk) eX FX HX) (k2 : (decide (((kk : Nat) : Int) > ((i : Nat) : Int))) = false → ((.exit 6 : Ex), (Vic_13 g n i kk), ([⟨g, 9, (List.map Card.row l), none⟩] : Heap)) = (eX, FX, HX)) : LoopTo (codeQ Try.prog (X sC_ann) (loopOf Try.f157 3)) (some [0, 14, 17]) (some [0, 14, 17]) (Vic_13 g n i kk) ([⟨g, 9, (List.map Card.row l), none⟩] : Heap) eX FX HX :=
  stepO (.r (.g (.two (decide (((kk : Nat) : Int) > ((i : Nat) : Int))) (fun h1 h1' => (.r (.y 4 (.int .i64 (IntKind.i64.wrap (((kk : Nat) : Int) - 1))) (AV.int .i64 ((kk - 1 : Nat) : Int)) (Yes.add ow ow ow) (.y 7 (.int .i64 (IntKind.i64.wrap (((kk : Nat) : Int) - 1))) (AV.int .i64 ((kk - 1 : Nat) : Int)) (Yes.add ow ow ow) (.io 8 0 g 9 9 0 n ((kk - 1 : Nat) : Int) (kk - 1) (IdxOsl.mk _ ow ow) (.t 9 (AV.agg (Card.row (nth l (kk - 1)))) ([⟨g, 9, (List.map Card.row l), none⟩] : Heap) (load_row (rowAt_map (row := Card.row) (l := l) (k := 9) (room := none) kr om) kr : LoadTo tt 58 0 ([⟨g, 9, (List.map Card.row l), none⟩] : Heap) (rowAt ([⟨g, 9, (List.map Card.row l), none⟩] : Heap) 0 g (kk - 1)) = some ((AV.agg (Card.row (nth l (kk - 1)))), ([⟨g, 9, (List.map Card.row l), none⟩] : Heap))) (.io 12 0 g 9 9 0 n ((kk : Nat) : Int) kk (IdxOsl.mk _ ow ow) (.t 13 (AV.agg (Card.row (nth l kk))) ([⟨g, 9, (List.map Card.row l), none⟩] : Heap) (load_row (rowAt_map (row := Card.row) (l := l) (k := 9) (room := none) kr om) kr : LoadTo tt 58 0 ([⟨g, 9, (List.map Card.row l), none⟩] : Heap) (rowAt ([⟨g, 9, (List.map Card.row l), none⟩] : Heap) 0 g kk) = some ((AV.agg (Card.row (nth l kk))), ([⟨g, 9, (List.map Card.row l), none⟩] : Heap))) (.io 14 0 g 9 9 0 n ((kk : Nat) : Int) kk (IdxOsl.mk _ ow ow) (.st 15 0 g kk 9 0 (AV.agg (Card.row (nth l (kk - 1)))) ([⟨g, 9, (List.map Card.row (l.set kk (nth l (kk - 1)))), none⟩] : Heap) (store_row (us := (Card.row (nth l (kk - 1)))) (rowAt_map (row := Card.row) (l := l) (k := 9) (room := none) kr om) kr (by simp [Card.row]) (by simp [setAt, fillAt, List.map_set, Card.row])) (.io 16 0 g 9 9 0 n ((kk - 1 : Nat) : Int) (kk - 1) (IdxOsl.mk _ ow ow) (.st 17 0 g (kk - 1) 9 0 (AV.agg (Card.row (nth l kk))) (Vic_12 g l kk) (store_row (us := (Card.row (nth l kk))) (rowAt_map (row := Card.row) (l := l.set kk (nth l (kk - 1))) (k := 9) (room := none) kr om) kr (by simp [Card.row]) (by simp [setAt, fillAt, List.map_set, Card.row])) (.g (.r (.y 1 (.int .i64 (IntKind.i64.wrap (((kk : Nat) : Int) - 1))) (AV.int .i64 ((kk - 1 : Nat) : Int)) (Yes.add ow ow ow) (.g (.l (k1 h1)))))))))))))))))) (fun h1 h1' => (.l (k2 h1))))))
theorem sCd_loop (i n g : Nat) (hnb : n < 1048576) (r : Nat) : ∀ (kk : Nat) (l : List Card), kk = i + r → n = l.length → kk < n →
    LoopTo (codeQ Try.prog (X sC_ann) (loopOf Try.f157 3)) (some [0, 14, 17]) (some [0, 14, 17]) (Vic_13 g n i kk) ([⟨g, 9, (List.map Card.row l), none⟩] : Heap) (.exit 6) (mkF 220 [(0, (.osl 0 g 9 0 n)), (14, (.int .i64 ((i : Nat) : Int))), (17, (.int .i64 ((i : Nat) : Int)))]) ([⟨g, 9, (List.map Card.row (shD r kk l)), none⟩] : Heap) := by
  induction r with
  | zero =>
    intro kk l h1 hn hk
    obtain rfl : kk = i := by omega
    exact sCd_step kk kk n g l hn hnb hk (fun h => by simp at h) (fun _ => rfl)
  | succ r ih =>
    intro kk l h1 hn hk
    refine sCd_step i kk n g l hn hnb hk (fun _ => ?_) (fun h => by simp at h; omega)
    simp only [shD]
    exact ih (kk - 1) _ ow (by simpa using hn) ow
end Go.Proofs.Ytcmfnfkahdconaa.AM

set_option maxRecDepth 100000
set_option linter.unusedVariables false
set_option linter.unusedSimpArgs false
namespace Go.Proofs.Ytcmfnfkahdconaa.AM
open Go Go.Proofs.Ytcmfnfkahdconaa
attribute [local irreducible] ACalls funT codeT codeQ LoopTo
attribute [local irreducible] Tp.card Tp.cardT Tp.next Tp.step Tp.cards Tp.cardsT Tp.key Tp.keyT sink insSort sortK insK posK beforeK sortP cmpK
attribute [local irreducible] swapL rotS rotL bsr mgL mg mAt shU shD
@[simp] abbrev Vjc_1 (v1_ : Nat) (v2_ : List Card) (v3_ : List Card) (v4_ : Card) (v5_ : List Card) (v6_ : List Card) : Heap := [⟨v1_, 9, (List.map Card.row (v2_ ++ (v3_ ++ (v4_ :: (v5_ ++ v6_))))), none⟩]
@[simp] abbrev Vjc_2 (v1_ : Nat) (v2_ : Nat) (v3_ : Nat) (v4_ : Nat) : Fr := (mkF 220 [(0, (AV.osl 0 v1_ 9 0 v2_)), (1, (AV.int .i64 ((v3_ : Nat) : Int))), (10, (AV.int .i64 ((v4_ : Nat) : Int)))])
@[simp] abbrev Vjc_3 (v1_ : Nat) (v2_ : Nat) (v3_ : Nat) : Fr := (mkF 220 [(0, (AV.osl 0 v1_ 9 0 v2_)), (10, (AV.int .i64 ((v3_ : Nat) : Int))), (13, (AV.int .i64 (((v3_ - 1) : Nat) : Int)))])
set_option maxRecDepth 100000 in
theorem sCA_spec (cmp : Card → Card → Int) (f : Nat) (xs : List AV) (A R1 R2 B : List Card) (x : Card) (a p b n g i : Nat) (l : List Card) (hc : ∀ (x y : Card) (H : Heap), ACalls Try.prog f ([AV.agg (Card.row x), AV.agg (Card.row y)] ++ xs) H (AV.int .i64 (cmp x y), H)) (hxs : AV.bdds 1 xs = true) (hn : n = l.length) (hnb : n < 1048576) (hl : l = A ++ (x :: (R1 ++ (R2 ++ B)))) (hA : a = A.length) (hp : p = a + 1) (hpb : p ≤ b) (hbn : b ≤ n) (hi : i = p + R1.length) (hib : i ≤ b) (hs : i = bsr (fun c => decide (cmp (nth l c) (nth l a) < 0)) (b - p) p b) : ACalls Try.prog 157 [(.osl 0 g 9 0 n), (.int .i64 ((a : Nat) : Int)), (.int .i64 ((p : Nat) : Int)), (.int .i64 ((b : Nat) : Int)), (.func f xs)] ([⟨g, 9, (List.map Card.row l), none⟩] : Heap) ((AV.tup []), (Vjc_1 g A R1 x R2 B)) := by
  have hfin : shU (i - 1 - a) a l = A ++ (R1 ++ (x :: (R2 ++ B))) := by rw [hl, show i - 1 - a = R1.length by omega]; exact shU_parts x R1 A (R2 ++ B) a hA
  exact specO (fn := Try.f157) (ann := sC_ann) (Has.o Try.func157) (.r (.y 2 (.int .i64 (IntKind.i64.wrap (((p : Nat) : Int) - ((a : Nat) : Int)))) (AV.int .i64 ((p - a : Nat) : Int)) (Yes.add ow ow ow) (.y 3 (AV.bool (((p - a : Nat) : Int) == 1)) (AV.bool true) (Yes.bool (by exact beq_iff_eq.2 ow)) (.g (.yes (.r (.g (.r (.g (.loop (Vjc_2 g n a i) (show LoopTo (codeQ Try.prog (X sC_ann) (loopOf Try.f157 0)) (some [0, 1, 4, 10, 11]) (some [0, 1, 10]) (mkF 220 [(0, (.osl 0 g 9 0 n)), (1, (.int .i64 ((a : Nat) : Int))), (4, (.func f xs)), (10, (.int .i64 ((p : Nat) : Int))), (11, (.int .i64 ((b : Nat) : Int)))]) ([⟨g, 9, (List.map Card.row l), none⟩] : Heap) (.exit 0) (Vjc_2 g n a i) ([⟨g, 9, (List.map Card.row l), none⟩] : Heap) from (by rw [hs]; exact sCa_loop cmp f xs hc a n g l hn hnb ow (b - p) p b ow ow ow)) (.r (.g (.loop (Vjc_3 g n i) (show LoopTo (codeQ Try.prog (X sC_ann) (loopOf Try.f157 1)) (some [0, 10, 13]) (some [0, 10, 13]) (mkF 220 [(0, (.osl 0 g 9 0 n)), (10, (.int .i64 ((i : Nat) : Int))), (13, (.int .i64 ((a : Nat) : Int)))]) ([⟨g, 9, (List.map Card.row l), none⟩] : Heap) (.exit 2) (Vjc_3 g n i) ([⟨g, 9, (List.map Card.row (shU (i - 1 - a) a l)), none⟩] : Heap) from (sCu_loop i n g ow ow hnb (i - 1 - a) l a _ ow hn (sCu_iter _ _ _ _ _ _))) (.f 1 (AV.tup []) (.e (AV.tup []) (by
        try delta Vjc_1
        rw [hfin]))))))))))))))))
@[simp] abbrev Vjc_4 (v1_ : Nat) (v2_ : Nat) (v3_ : Nat) (v4_ : Nat) : Fr := (mkF 220 [(0, (AV.osl 0 v1_ 9 0 v2_)), (2, (AV.int .i64 ((v3_ : Nat) : Int))), (14, (AV.int .i64 ((v4_ : Nat) : Int)))])
@[simp] abbrev Vjc_5 (v1_ : Nat) (v2_ : Nat) (v3_ : Nat) : Fr := (mkF 220 [(0, (AV.osl 0 v1_ 9 0 v2_)), (14, (AV.int .i64 ((v3_ : Nat) : Int))), (17, (AV.int .i64 ((v3_ : Nat) : Int)))])
set_option maxRecDepth 100000 in
theorem sCB_spec (cmp : Card → Card → Int) (f : Nat) (xs : List AV) (A L1 L2 B : List Card) (y : Card) (a p b n g i : Nat) (l : List Card) (hc : ∀ (x y : Card) (H : Heap), ACalls Try.prog f ([AV.agg (Card.row x), AV.agg (Card.row y)] ++ xs) H (AV.int .i64 (cmp x y), H)) (hxs : AV.bdds 1 xs = true) (hn : n = l.length) (hnb : n < 1048576) (hl : l = A ++ (L1 ++ (L2 ++ (y :: B)))) (hA : a = A.length) (hi : i = a + L1.length) (hp : p = i + L2.length) (h1 : p ≠ a + 1) (hb : b = p + 1) (hbn : b ≤ n) (hs : i = bsr (fun c => !decide (cmp (nth l p) (nth l c) < 0)) (p - a) a p) : ACalls Try.prog 157 [(.osl 0 g 9 0 n), (.int .i64 ((a : Nat) : Int)), (.int .i64 ((p : Nat) : Int)), (.int .i64 ((b : Nat) : Int)), (.func f xs)] ([⟨g, 9, (List.map Card.row l), none⟩] : Heap) ((AV.tup []), (Vjc_1 g A L1 y L2 B)) := by
  have hfin : shD (p - i) p l = A ++ (L1 ++ (y :: (L2 ++ B))) := by rw [hl, show p - i = L2.length by omega, show A ++ (L1 ++ (L2 ++ (y :: B))) = (A ++ L1) ++ (L2 ++ (y :: B)) by simp, shD_parts y L2.length (A ++ L1) L2 B p rfl (by simp; omega)]; simp
  exact specO (fn := Try.f157) (ann := sC_ann) (Has.o Try.func157) (.r (.y 2 (.int .i64 (IntKind.i64.wrap (((p : Nat) : Int) - ((a : Nat) : Int)))) (AV.int .i64 ((p - a : Nat) : Int)) (Yes.add ow ow ow) (.y 3 (AV.bool (((p - a : Nat) : Int) == 1)) (AV.bool false) (Yes.bool (by exact beq_eq_false_iff_ne.2 ow)) (.g (.no (.r (.y 2 (.int .i64 (IntKind.i64.wrap (((b : Nat) : Int) - ((p : Nat) : Int)))) (AV.int .i64 ((b - p : Nat) : Int)) (Yes.add ow ow ow) (.y 3 (AV.bool (((b - p : Nat) : Int) == 1)) (AV.bool true) (Yes.bool (by exact beq_iff_eq.2 ow)) (.g (.yes (.r (.g (.r (.g (.loop (Vjc_4 g n p i) (show LoopTo (codeQ Try.prog (X sC_ann) (loopOf Try.f157 2)) (some [0, 2, 4, 14, 15]) (some [0, 2, 14]) (mkF 220 [(0, (.osl 0 g 9 0 n)), (2, (.int .i64 ((p : Nat) : Int))), (4, (.func f xs)), (14, (.int .i64 ((a : Nat) : Int))), (15, (.int .i64 ((p : Nat) : Int)))]) ([⟨g, 9, (List.map Card.row l), none⟩] : Heap) (.exit 4) (Vjc_4 g n p i) ([⟨g, 9, (List.map Card.row l), none⟩] : Heap) from (by rw [hs]; exact sCb_loop cmp f xs hc p n g l hn hnb ow (p - a) a p ow ow ow)) (.r (.g (.loop (Vjc_5 g n i) (show LoopTo (codeQ Try.prog (X sC_ann) (loopOf Try.f157 3)) (some [0, 14, 17]) (some [0, 14, 17]) (mkF 220 [(0, (.osl 0 g 9 0 n)), (14, (.int .i64 ((i : Nat) : Int))), (17, (.int .i64 ((p : Nat) : Int)))]) ([⟨g, 9, (List.map Card.row l), none⟩] : Heap) (.exit 6) (Vjc_5 g n i) ([⟨g, 9, (List.map Card.row (shD (p - i) p l)), none⟩] : Heap) from (sCd_loop i n g hnb (p - i) p l ow hn ow)) (.f 1 (AV.tup []) (.e (AV.tup []) (by
        try delta Vjc_1
        rw [hfin])))))))))))))))))))))
@[simp] abbrev Vjc_6 (v1_ : Nat) (v2_ : Nat) (v3_ : Nat) (v4_ : Nat) (v5_ : Nat) (v6_ : Nat) (v7_ : List AV) (v8_ : Nat) (v9_ : Nat) : Fr := (mkF 220 [(0, (AV.osl 0 v1_ 9 0 v2_)), (1, (AV.int .i64 ((v3_ : Nat) : Int))), (2, (AV.int .i64 ((v4_ : Nat) : Int))), (3, (AV.int .i64 ((v5_ : Nat) : Int))), (4, (AV.func v6_ v7_)), (18, (AV.int .i64 ((v8_ : Nat) : Int))), (19, (AV.int .i64 (((v8_ + v4_) : Nat) : Int))), (20, (AV.int .i64 ((v9_ : Nat) : Int)))])
@[simp] abbrev Vjc_7 (v1_ : Nat) (v2_ : Nat) (v3_ : Nat) (v4_ : Nat) (v5_ : List Card) : Heap := [⟨v1_, 9, (List.map Card.row (rotL v2_ v3_ ((v4_ + v3_) - v2_) v5_)), none⟩]
set_option maxHeartbeats 4000000 in
set_option maxRecDepth 100000 in
theorem sCC_spec (cmp : Card → Card → Int) (f : Nat) (xs : List AV) (A L1 L2 R1 R2 B : List Card) (a p b n g i mid Nz : Nat) (l : List Card) (hc : ∀ (x y : Card) (H : Heap), ACalls Try.prog f ([AV.agg (Card.row x), AV.agg (Card.row y)] ++ xs) H (AV.int .i64 (cmp x y), H)) (hxs : AV.bdds 1 xs = true) (hn : n = l.length) (hnb : n < 1048576) (ih_at : ∀ (a p b n g : Nat) (l : List Card), n = l.length → n < 1048576 → a < p → p < b → b ≤ n → b - a < Nz → Srt (ltF cmp) ((l.drop a).take (p - a)) → Srt (ltF cmp) ((l.drop p).take (b - p)) → ∀ H : Heap, ACalls Try.prog 157 [(.osl 0 g 9 0 n), (.int .i64 ((a : Nat) : Int)), (.int .i64 ((p : Nat) : Int)), (.int .i64 ((b : Nat) : Int)), (.func f xs)] (([⟨g, 9, (List.map Card.row l), none⟩] : Heap) ++ H) (.tup [], ([⟨g, 9, (List.map Card.row (mAt (ltF cmp) a p b l)), none⟩] : Heap) ++ H)) (hl : l = A ++ (L1 ++ (L2 ++ (R1 ++ (R2 ++ B))))) (hA : a = A.length) (hi : i = a + L1.length) (hp : p = i + L2.length) (hR1 : mid = i + R1.length) (hb : b = p + R1.length + R2.length) (hbn : b ≤ n) (hap : a < p) (hpb : p < b) (h1 : p ≠ a + 1) (h2 : b ≠ p + 1) (hmid : mid = (a + b) / 2) (hNz : b - a ≤ Nz) (hgt : mid < p) (hs : i = bsr (fun c => !decide (cmp (nth l (mid + p - 1 - c)) (nth l c) < 0)) (mid - (mid + p - b)) (mid + p - b) mid) (hlo : mid + p - b ≤ i) (hhi : i ≤ mid) (q1 : Srt (ltF cmp) L1) (q2 : Srt (ltF cmp) L2) (q3 : Srt (ltF cmp) R1) (q4 : Srt (ltF cmp) R2) : ACalls Try.prog 157 [(.osl 0 g 9 0 n), (.int .i64 ((a : Nat) : Int)), (.int .i64 ((p : Nat) : Int)), (.int .i64 ((b : Nat) : Int)), (.func f xs)] ([⟨g, 9, (List.map Card.row l), none⟩] : Heap) ((AV.tup []), ([⟨g, 9, (List.map Card.row (A ++ (mg (ltF cmp) L1 R1 ++ (mg (ltF cmp) L2 R2 ++ B)))), none⟩] : Heap)) := by
  have hll : n = A.length + L1.length + L2.length + R1.length + R2.length + B.length := by rw [hn, hl]; simp; omega
  have e1 := sm1 A L1 L2 R1 R2 B hl (s := i) (m := p) (e := mid + p - i) ow hp ow
  have e2 := sm2 (ltF cmp) A L1 R1 (L2 ++ (R2 ++ B)) (a := a) (s := i) (mid := mid) hA hi hR1
  have e3 := sm3 (ltF cmp) A (mg (ltF cmp) L1 R1) L2 R2 B (mid := mid) (e := mid + p - i) (b := b) (by rw [mg_len]; omega) ow ow
  have hrot : 0 < L2.length → 0 < R1.length → _ := rot_facts (A ++ L1) L2 R1 (R2 ++ B) (l := l) (by rw [hl]; simp) (a := i) (m := p) (b := mid + p - i) (by simp; omega) hp ow
  have hlen2 : (A ++ (mg (ltF cmp) L1 R1 ++ (L2 ++ (R2 ++ B)))).length = n := by rw [hll]; simp [mg_len]; omega
  have hlen1 : (A ++ (L1 ++ (R1 ++ (L2 ++ (R2 ++ B))))).length = n := by rw [hll]; simp; omega
  exact specO (fn := Try.f157) (ann := sC_ann) (Has.o Try.func157) (.r (.y 2 (.int .i64 (IntKind.i64.wrap (((p : Nat) : Int) - ((a : Nat) : Int)))) (AV.int .i64 ((p - a : Nat) : Int)) (Yes.add ow ow ow) (.y 3 (AV.bool (((p - a : Nat) : Int) == 1)) (AV.bool false) (Yes.bool (by exact beq_eq_false_iff_ne.2 ow)) (.g (.no (.r (.y 2 (.int .i64 (IntKind.i64.wrap (((b : Nat) : Int) - ((p : Nat) : Int)))) (AV.int .i64 ((b - p : Nat) : Int)) (Yes.add ow ow ow) (.y 3 (AV.bool (((b - p : Nat) : Int) == 1)) (AV.bool false) (Yes.bool (by exact beq_eq_false_iff_ne.2 ow)) (.g (.no (.r (.y 2 (.int .i64 (IntKind.i64.wrap (((a : Nat) : Int) + ((b : Nat) : Int)))) (AV.int .i64 ((a + b : Nat) : Int)) (Yes.add ow ow ow) (.y 5 (AV.int .i64 (IntKind.i64.wrap (Int.fdiv (IntKind.u64.wrap ((a + b : Nat) : Int)) (2 ^ (min (Int.toNat 1) 64))))) (AV.int .i64 ((mid : Nat) : Int)) (Yes.int (half_nat ow ow)) (.g (.r (.y 2 (.int .i64 (IntKind.i64.wrap (((mid : Nat) : Int) + ((p : Nat) : Int)))) (AV.int .i64 ((mid + p : Nat) : Int)) (Yes.add ow ow ow) (.g (.r (.g (.r (.y 2 (AV.bool (decide (((p : Nat) : Int) > ((mid : Nat) : Int)))) (AV.bool true) (Yes.bool (by exact decide_eq_true ow)) (.g (.yes (.r (.y 2 (.int .i64 (IntKind.i64.wrap (((mid + p : Nat) : Int) - ((b : Nat) : Int)))) (AV.int .i64 ((mid + p - b : Nat) : Int)) (Yes.add ow ow ow) (.g (.r (.g (.r (.y 1 (.int .i64 (IntKind.i64.wrap (((mid + p : Nat) : Int) - 1))) (AV.int .i64 ((mid + p - 1 : Nat) : Int)) (Yes.add ow ow ow) (.g (.loop (Vjc_6 g n a p b f xs mid i) (show LoopTo (codeQ Try.prog (X sC_ann) (loopOf Try.f157 4)) (some [0, 1, 2, 3, 4, 18, 19, 20, 21, 22]) (some [0, 1, 2, 3, 4, 18, 19, 20]) (mkF 220 [(0, (.osl 0 g 9 0 n)), (1, (.int .i64 ((a : Nat) : Int))), (2, (.int .i64 ((p : Nat) : Int))), (3, (.int .i64 ((b : Nat) : Int))), (4, (.func f xs)), (18, (.int .i64 ((mid : Nat) : Int))), (19, (.int .i64 ((mid + p : Nat) : Int))), (20, (.int .i64 ((mid + p - b : Nat) : Int))), (21, (.int .i64 ((mid : Nat) : Int))), (22, (.int .i64 ((mid + p - 1 : Nat) : Int)))]) ([⟨g, 9, (List.map Card.row l), none⟩] : Heap) (.exit 8) (Vjc_6 g n a p b f xs mid i) ([⟨g, 9, (List.map Card.row l), none⟩] : Heap) from (by rw [hs]; exact sCc_loop cmp f xs hc a p b mid (mid + p) (mid + p - 1) n g l hn hnb (mid - ((mid + p - b))) (mid + p - b) mid ow ow ow)) (.r (.y 2 (.int .i64 (IntKind.i64.wrap ((((mid + p) : Nat) : Int) - ((i : Nat) : Int)))) (AV.int .i64 (((mid + p) - i : Nat) : Int)) (Yes.add ow ow ow) (.g (.r (.two (decide (((i : Nat) : Int) < ((p : Nat) : Int))) (fun h1 h1' => (.yes (.yes (.g (.two (decide (((p : Nat) : Int) < (((mid + p) - i : Nat) : Int))) (fun h2 h2' => (.r (.ch 5 (Vjc_7 g i p mid l) (ACalls.pre (args' := [(.osl 0 g 9 0 n), (.int .i64 ((i : Nat) : Int)), (.int .i64 ((p : Nat) : Int)), (.int .i64 (((mid + p) - i : Nat) : Int)), (.func f xs)]) (mCr_at f xs i p ((mid + p) - i) n g l (by first | exact hc | exact hxs | omega | (simp; omega)) (by first | exact hc | exact hxs | omega | (simp; omega)) (by first | exact hc | exact hxs | omega | (simp; omega)) (by first | exact hc | exact hxs | omega | (simp; omega)) (by first | exact hc | exact hxs | omega | (simp; omega)) (by first | exact hc | exact hxs | omega | (simp; omega)) ((hrot ow ow).1) ((hrot ow ow).2.1) ((hrot ow ow).2.2) ([] : Heap)) ⟨AV.wk_refl_any _, AV.wk_refl_any _, AV.wk_refl_any _, AV.wk_refl_any _, AV.wk_refl_any _, trivial⟩) (.g (.r (.two (decide (((a : Nat) : Int) < ((i : Nat) : Int))) (fun h3 h3' => (.yes (.yes (.g (.two (decide (((i : Nat) : Int) < ((mid : Nat) : Int))) (fun h4 h4' => (.r (.ch 5 ([⟨g, 9, (List.map Card.row (mAt (ltF cmp) a i mid (rotL i p ((mid + p) - i) l))), none⟩] : Heap) (ih_at a i mid n g (rotL i p ((mid + p) - i) l) (by first | (exfalso; omega) | ((first | rw [if_pos ow] at e1 | rw [if_neg ow] at e1); rw [e1]; exact hlen1.symm)) (by first | exact hc | exact hxs | omega | (simp; omega)) (by first | exact hc | exact hxs | omega | (simp; omega)) (by first | exact hc | exact hxs | omega | (simp; omega)) (by first | exact hc | exact hxs | omega | (simp; omega)) (by first | exact hc | exact hxs | omega | (simp; omega)) (by first | (exfalso; omega) | ((first | rw [if_pos ow] at e1 | rw [if_neg ow] at e1); rw [e1]; rw [piece A L1 _ hA ow]; exact q1)) (by first | (exfalso; omega) | ((first | rw [if_pos ow] at e1 | rw [if_neg ow] at e1); rw [e1]; rw [show A ++ (L1 ++ (R1 ++ (L2 ++ (R2 ++ B)))) = (A ++ L1) ++ (R1 ++ (L2 ++ (R2 ++ B))) by simp, piece (A ++ L1) R1 _ (by simp; omega) ow]; exact q3)) ([] : Heap)) (.g (.r (.two (decide (((mid : Nat) : Int) < (((mid + p) - i : Nat) : Int))) (fun h5 h5' => (.yes (.yes (.g (.two (decide ((((mid + p) - i : Nat) : Int) < ((b : Nat) : Int))) (fun h6 h6' => (.r (.ch 5 ([⟨g, 9, (List.map Card.row (mAt (ltF cmp) mid ((mid + p) - i) b (mAt (ltF cmp) a i mid (rotL i p ((mid + p) - i) l)))), none⟩] : Heap) (ACalls.pre (args' := [(.osl 0 g 9 0 n), (.int .i64 ((mid : Nat) : Int)), (.int .i64 (((mid + p) - i : Nat) : Int)), (.int .i64 ((b : Nat) : Int)), (.func f xs)]) (ih_at mid ((mid + p) - i) b n g (mAt (ltF cmp) a i mid (rotL i p ((mid + p) - i) l)) (by first | (exfalso; omega) | ((first | rw [if_pos ow] at e1 | rw [if_neg ow] at e1); (first | rw [if_pos ow] at e2 | rw [if_neg ow] at e2); rw [e1, e2]; exact hlen2.symm)) (by first | exact hc | exact hxs | omega | (simp; omega)) (by first | exact hc | exact hxs | omega | (simp; omega)) (by first | exact hc | exact hxs | omega | (simp; omega)) (by first | exact hc | exact hxs | omega | (simp; omega)) (by first | exact hc | exact hxs | omega | (simp; omega)) (by first | (exfalso; omega) | ((first | rw [if_pos ow] at e1 | rw [if_neg ow] at e1); (first | rw [if_pos ow] at e2 | rw [if_neg ow] at e2); rw [e1, e2]; rw [show A ++ (mg (ltF cmp) L1 R1 ++ (L2 ++ (R2 ++ B))) = (A ++ mg (ltF cmp) L1 R1) ++ (L2 ++ (R2 ++ B)) by simp, piece (A ++ mg (ltF cmp) L1 R1) L2 _ (by simp [mg_len]; omega) ow]; exact q2)) (by first | (exfalso; omega) | ((first | rw [if_pos ow] at e1 | rw [if_neg ow] at e1); (first | rw [if_pos ow] at e2 | rw [if_neg ow] at e2); rw [e1, e2]; rw [show A ++ (mg (ltF cmp) L1 R1 ++ (L2 ++ (R2 ++ B))) = ((A ++ mg (ltF cmp) L1 R1) ++ L2) ++ (R2 ++ B) by simp, piece ((A ++ mg (ltF cmp) L1 R1) ++ L2) R2 _ (by simp [mg_len]; omega) ow]; exact q4)) ([] : Heap)) ⟨AV.wk_refl_any _, AV.wk_refl_any _, AV.wk_refl_any _, AV.wk_refl_any _, AV.wk_refl_any _, trivial⟩) (.g (.f 1 (AV.tup []) (.e (AV.tup []) (by
        try delta Vjc_7
        first | (exfalso; omega) | ((first | rw [if_pos ow] at e1 | rw [if_neg ow] at e1); (first | rw [if_pos ow] at e2 | rw [if_neg ow] at e2); (first | rw [if_pos ow] at e3 | rw [if_neg ow] at e3); rw [e1, e2, e3])))))))) (fun h6 h6' => (.f 1 (AV.tup []) (.e (AV.tup []) (by
        try delta Vjc_7
        first | (exfalso; omega) | ((first | rw [if_pos ow] at e1 | rw [if_neg ow] at e1); (first | rw [if_pos ow] at e2 | rw [if_neg ow] at e2); (first | rw [if_pos ow] at e3 | rw [if_neg ow] at e3); rw [e1, e2, e3])))))))))) (fun h5 h5' => (.no (.no (.g (.no (.f 1 (AV.tup []) (.e (AV.tup []) (by
        try delta Vjc_7
        first | (exfalso; omega) | ((first | rw [if_pos ow] at e1 | rw [if_neg ow] at e1); (first | rw [if_pos ow] at e2 | rw [if_neg ow] at e2); (first | rw [if_pos ow] at e3 | rw [if_neg ow] at e3); rw [e1, e2, e3]))))))))))))))) (fun h4 h4' => (.r (.two (decide (((mid : Nat) : Int) < (((mid + p) - i : Nat) : Int))) (fun h5 h5' => (.yes (.yes (.g (.two (decide ((((mid + p) - i : Nat) : Int) < ((b : Nat) : Int))) (fun h6 h6' => (.r (.ch 5 ([⟨g, 9, (List.map Card.row (mAt (ltF cmp) mid ((mid + p) - i) b (rotL i p ((mid + p) - i) l))), none⟩] : Heap) (ACalls.pre (args' := [(AV.osl 0 g 9 0 n), (AV.int .i64 ((mid : Nat) : Int)), (AV.int .i64 (((mid + p) - i : Nat) : Int)), (AV.int .i64 ((b : Nat) : Int)), (AV.func f xs)]) (ih_at mid ((mid + p) - i) b n g (rotL i p ((mid + p) - i) l) (by first | (exfalso; omega) | ((first | rw [if_pos ow] at e1 | rw [if_neg ow] at e1); (first | rw [if_pos ow] at e2 | rw [if_neg ow] at e2); rw [e1, e2]; exact hlen2.symm)) (by first | exact hc | exact hxs | omega | (simp; omega)) (by first | exact hc | exact hxs | omega | (simp; omega)) (by first | exact hc | exact hxs | omega | (simp; omega)) (by first | exact hc | exact hxs | omega | (simp; omega)) (by first | exact hc | exact hxs | omega | (simp; omega)) (by first | (exfalso; omega) | ((first | rw [if_pos ow] at e1 | rw [if_neg ow] at e1); (first | rw [if_pos ow] at e2 | rw [if_neg ow] at e2); rw [e1, e2]; rw [show A ++ (mg (ltF cmp) L1 R1 ++ (L2 ++ (R2 ++ B))) = (A ++ mg (ltF cmp) L1 R1) ++ (L2 ++ (R2 ++ B)) by simp, piece (A ++ mg (ltF cmp) L1 R1) L2 _ (by simp [mg_len]; omega) ow]; exact q2)) (by first | (exfalso; omega) | ((first | rw [if_pos ow] at e1 | rw [if_neg ow] at e1); (first | rw [if_pos ow] at e2 | rw [if_neg ow] at e2); rw [e1, e2]; rw [show A ++ (mg (ltF cmp) L1 R1 ++ (L2 ++ (R2 ++ B))) = ((A ++ mg (ltF cmp) L1 R1) ++ L2) ++ (R2 ++ B) by simp, piece ((A ++ mg (ltF cmp) L1 R1) ++ L2) R2 _ (by simp [mg_len]; omega) ow]; exact q4)) ([] : Heap)) ⟨AV.wk_refl_any _, AV.wk_refl_any _, AV.wk_refl_any _, AV.wk_refl_any _, AV.wk_refl_any _, trivial⟩) (.g (.f 1 (AV.tup []) (.e (AV.tup []) (by
        try delta Vjc_7
        first | (exfalso; omega) | ((first | rw [if_pos ow] at e1 | rw [if_neg ow] at e1); (first | rw [if_pos ow] at e2 | rw [if_neg ow] at e2); (first | rw [if_pos ow] at e3 | rw [if_neg ow] at e3); rw [e1, e2, e3])))))))) (fun h6 h6' => (.f 1 (AV.tup []) (.e (AV.tup []) (by
        try delta Vjc_7
        first | (exfalso; omega) | ((first | rw [if_pos ow] at e1 | rw [if_neg ow] at e1); (first | rw [if_pos ow] at e2 | rw [if_neg ow] at e2); (first | rw [if_pos ow] at e3 | rw [if_neg ow] at e3); rw [e1, e2, e3])))))))))) (fun h5 h5' => (.no (.no (.g (.no (.f 1 (AV.tup []) (.e (AV.tup []) (by
        try delta Vjc_7
        first | (exfalso; omega) | ((first | rw [if_pos ow] at e1 | rw [if_neg ow] at e1); (first | rw [if_pos ow] at e2 | rw [if_neg ow] at e2); (first | rw [if_pos ow] at e3 | rw [if_neg ow] at e3); rw [e1, e2, e3]))))))))))))))))) (fun h3 h3' => (.no (.no (.g (.no (.r (.two (decide (((mid : Nat) : Int) < (((mid + p) - i : Nat) : Int))) (fun h4 h4' => (.yes (.yes (.g (.two (decide ((((mid + p) - i : Nat) : Int) < ((b : Nat) : Int))) (fun h5 h5' => (.r (.ch 5 ([⟨g, 9, (List.map Card.row (mAt (ltF cmp) mid ((mid + p) - i) b (rotL i p ((mid + p) - i) l))), none⟩] : Heap) (ACalls.pre (args' := [(AV.osl 0 g 9 0 n), (AV.int .i64 ((mid : Nat) : Int)), (AV.int .i64 (((mid + p) - i : Nat) : Int)), (AV.int .i64 ((b : Nat) : Int)), (AV.func f xs)]) (ih_at mid ((mid + p) - i) b n g (rotL i p ((mid + p) - i) l) (by first | (exfalso; omega) | ((first | rw [if_pos ow] at e1 | rw [if_neg ow] at e1); (first | rw [if_pos ow] at e2 | rw [if_neg ow] at e2); rw [e1, e2]; exact hlen2.symm)) (by first | exact hc | exact hxs | omega | (simp; omega)) (by first | exact hc | exact hxs | omega | (simp; omega)) (by first | exact hc | exact hxs | omega | (simp; omega)) (by first | exact hc | exact hxs | omega | (simp; omega)) (by first | exact hc | exact hxs | omega | (simp; omega)) (by first | (exfalso; omega) | ((first | rw [if_pos ow] at e1 | rw [if_neg ow] at e1); (first | rw [if_pos ow] at e2 | rw [if_neg ow] at e2); rw [e1, e2]; rw [show A ++ (mg (ltF cmp) L1 R1 ++ (L2 ++ (R2 ++ B))) = (A ++ mg (ltF cmp) L1 R1) ++ (L2 ++ (R2 ++ B)) by simp, piece (A ++ mg (ltF cmp) L1 R1) L2 _ (by simp [mg_len]; omega) ow]; exact q2)) (by first | (exfalso; omega) | ((first | rw [if_pos ow] at e1 | rw [if_neg ow] at e1); (first | rw [if_pos ow] at e2 | rw [if_neg ow] at e2); rw [e1, e2]; rw [show A ++ (mg (ltF cmp) L1 R1 ++ (L2 ++ (R2 ++ B))) = ((A ++ mg (ltF cmp) L1 R1) ++ L2) ++ (R2 ++ B) by simp, piece ((A ++ mg (ltF cmp) L1 R1) ++ L2) R2 _ (by simp [mg_len]; omega) ow]; exact q4)) ([] : Heap)) ⟨AV.wk_refl_any _, AV.wk_refl_any _, AV.wk_refl_any _, AV.wk_refl_any _, AV.wk_refl_any _, trivial⟩) (.g (.f 1 (AV.tup []) (.e (AV.tup []) (by
        try delta Vjc_7
        first | (exfalso; omega) | ((first | rw [if_pos ow] at e1 | rw [if_neg ow] at e1); (first | rw [if_pos ow] at e2 | rw [if_neg ow] at e2); (first | rw [if_pos ow] at e3 | rw [if_neg ow] at e3); rw [e1, e2, e3])))))))) (fun h5 h5' => (.f 1 (AV.tup []) (.e (AV.tup []) (by
        try delta Vjc_7
        first | (exfalso; omega) | ((first | rw [if_pos ow] at e1 | rw [if_neg ow] at e1); (first | rw [if_pos ow] at e2 | rw [if_neg ow] at e2); (first | rw [if_pos ow] at e3 | rw [if_neg ow] at e3); rw [e1, e2, e3])))))))))) (fun h4 h4' => (.no (.no (.g (.no (.f 1 (AV.tup []) (.e (AV.tup []) (by
        try delta Vjc_7
        first | (exfalso; omega) | ((first | rw [if_pos ow] at e1 | rw [if_neg ow] at e1); (first | rw [if_pos ow] at e2 | rw [if_neg ow] at e2); (first | rw [if_pos ow] at e3 | rw [if_neg ow] at e3); rw [e1, e2, e3])))))))))))))))))))))) (fun h2 h2' => (.r (.two (decide (((a : Nat) : Int) < ((i : Nat) : Int))) (fun h3 h3' => (.yes (.yes (.g (.two (decide (((i : Nat) : Int) < ((mid : Nat) : Int))) (fun h4 h4' => (.r (.ch 5 ([⟨g, 9, (List.map Card.row (mAt (ltF cmp) a i mid l)), none⟩] : Heap) (ih_at a i mid n g l (by first | (exfalso; omega) | ((first | rw [if_pos ow] at e1 | rw [if_neg ow] at e1); rw [e1]; exact hlen1.symm)) (by first | exact hc | exact hxs | omega | (simp; omega)) (by first | exact hc | exact hxs | omega | (simp; omega)) (by first | exact hc | exact hxs | omega | (simp; omega)) (by first | exact hc | exact hxs | omega | (simp; omega)) (by first | exact hc | exact hxs | omega | (simp; omega)) (by first | (exfalso; omega) | ((first | rw [if_pos ow] at e1 | rw [if_neg ow] at e1); rw [e1]; rw [piece A L1 _ hA ow]; exact q1)) (by first | (exfalso; omega) | ((first | rw [if_pos ow] at e1 | rw [if_neg ow] at e1); rw [e1]; rw [show A ++ (L1 ++ (R1 ++ (L2 ++ (R2 ++ B)))) = (A ++ L1) ++ (R1 ++ (L2 ++ (R2 ++ B))) by simp, piece (A ++ L1) R1 _ (by simp; omega) ow]; exact q3)) ([] : Heap)) (.g (.r (.two (decide (((mid : Nat) : Int) < (((mid + p) - i : Nat) : Int))) (fun h5 h5' => (.yes (.yes (.g (.two (decide ((((mid + p) - i : Nat) : Int) < ((b : Nat) : Int))) (fun h6 h6' => (.r (.ch 5 ([⟨g, 9, (List.map Card.row (mAt (ltF cmp) mid ((mid + p) - i) b (mAt (ltF cmp) a i mid l))), none⟩] : Heap) (ACalls.pre (args' := [(AV.osl 0 g 9 0 n), (AV.int .i64 ((mid : Nat) : Int)), (AV.int .i64 (((mid + p) - i : Nat) : Int)), (AV.int .i64 ((b : Nat) : Int)), (AV.func f xs)]) (ih_at mid ((mid + p) - i) b n g (mAt (ltF cmp) a i mid l) (by first | (exfalso; omega) | ((first | rw [if_pos ow] at e1 | rw [if_neg ow] at e1); (first | rw [if_pos ow] at e2 | rw [if_neg ow] at e2); rw [e1, e2]; exact hlen2.symm)) (by first | exact hc | exact hxs | omega | (simp; omega)) (by first | exact hc | exact hxs | omega | (simp; omega)) (by first | exact hc | exact hxs | omega | (simp; omega)) (by first | exact hc | exact hxs | omega | (simp; omega)) (by first | exact hc | exact hxs | omega | (simp; omega)) (by first | (exfalso; omega) | ((first | rw [if_pos ow] at e1 | rw [if_neg ow] at e1); (first | rw [if_pos ow] at e2 | rw [if_neg ow] at e2); rw [e1, e2]; rw [show A ++ (mg (ltF cmp) L1 R1 ++ (L2 ++ (R2 ++ B))) = (A ++ mg (ltF cmp) L1 R1) ++ (L2 ++ (R2 ++ B)) by simp, piece (A ++ mg (ltF cmp) L1 R1) L2 _ (by simp [mg_len]; omega) ow]; exact q2)) (by first | (exfalso; omega) | ((first | rw [if_pos ow] at e1 | rw [if_neg ow] at e1); (first | rw [if_pos ow] at e2 | rw [if_neg ow] at e2); rw [e1, e2]; rw [show A ++ (mg (ltF cmp) L1 R1 ++ (L2 ++ (R2 ++ B))) = ((A ++ mg (ltF cmp) L1 R1) ++ L2) ++ (R2 ++ B) by simp, piece ((A ++ mg (ltF cmp) L1 R1) ++ L2) R2 _ (by simp [mg_len]; omega) ow]; exact q4)) ([] : Heap)) ⟨AV.wk_refl_any _, AV.wk_refl_any _, AV.wk_refl_any _, AV.wk_refl_any _, AV.wk_refl_any _, trivial⟩) (.g (.f 1 (AV.tup []) (.e (AV.tup []) (by
        try delta Vjc_7
        first | (exfalso; omega) | ((first | rw [if_pos ow] at e1 | rw [if_neg ow] at e1); (first | rw [if_pos ow] at e2 | rw [if_neg ow] at e2); (first | rw [if_pos ow] at e3 | rw [if_neg ow] at e3); rw [e1, e2, e3])))))))) (fun h6 h6' => (.f 1 (AV.tup []) (.e (AV.tup []) (by
        try delta Vjc_7
        first | (exfalso; omega) | ((first | rw [if_pos ow] at e1 | rw [if_neg ow] at e1); (first | rw [if_pos ow] at e2 | rw [if_neg ow] at e2); (first | rw [if_pos ow] at e3 | rw [if_neg ow] at e3); rw [e1, e2, e3])))))))))) (fun h5 h5' => (.no (.no (.g (.no (.f 1 (AV.tup []) (.e (AV.tup []) (by
        try delta Vjc_7
        first | (exfalso; omega) | ((first | rw [if_pos ow] at e1 | rw [if_neg ow] at e1); (first | rw [if_pos ow] at e2 | rw [if_neg ow] at e2); (first | rw [if_pos ow] at e3 | rw [if_neg ow] at e3); rw [e1, e2, e3]))))))))))))))) (fun h4 h4' => (.r (.two (decide (((mid : Nat) : Int) < (((mid + p) - i : Nat) : Int))) (fun h5 h5' => (.yes (.yes (.g (.two (decide ((((mid + p) - i : Nat) : Int) < ((b : Nat) : Int))) (fun h6 h6' => (.r (.ch 5 ([⟨g, 9, (List.map Card.row (mAt (ltF cmp) mid ((mid + p) - i) b l)), none⟩] : Heap) (ACalls.pre (args' := [(AV.osl 0 g 9 0 n), (AV.int .i64 ((mid : Nat) : Int)), (AV.int .i64 (((mid + p) - i : Nat) : Int)), (AV.int .i64 ((b : Nat) : Int)), (AV.func f xs)]) (ih_at mid ((mid + p) - i) b n g l (by first | (exfalso; omega) | ((first | rw [if_pos ow] at e1 | rw [if_neg ow] at e1); (first | rw [if_pos ow] at e2 | rw [if_neg ow] at e2); rw [e1, e2]; exact hlen2.symm)) (by first | exact hc | exact hxs | omega | (simp; omega)) (by first | exact hc | exact hxs | omega | (simp; omega)) (by first | exact hc | exact hxs | omega | (simp; omega)) (by first | exact hc | exact hxs | omega | (simp; omega)) (by first | exact hc | exact hxs | omega | (simp; omega)) (by first | (exfalso; omega) | ((first | rw [if_pos ow] at e1 | rw [if_neg ow] at e1); (first | rw [if_pos ow] at e2 | rw [if_neg ow] at e2); rw [e1, e2]; rw [show A ++ (mg (ltF cmp) L1 R1 ++ (L2 ++ (R2 ++ B))) = (A ++ mg (ltF cmp) L1 R1) ++ (L2 ++ (R2 ++ B)) by simp, piece (A ++ mg (ltF cmp) L1 R1) L2 _ (by simp [mg_len]; omega) ow]; exact q2)) (by first | (exfalso; omega) | ((first | rw [if_pos ow] at e1 | rw [if_neg ow] at e1); (first | rw [if_pos ow] at e2 | rw [if_neg ow] at e2); rw [e1, e2]; rw [show A ++ (mg (ltF cmp) L1 R1 ++ (L2 ++ (R2 ++ B))) = ((A ++ mg (ltF cmp) L1 R1) ++ L2) ++ (R2 ++ B) by simp, piece ((A ++ mg (ltF cmp) L1 R1) ++ L2) R2 _ (by simp [mg_len]; omega) ow]; exact q4)) ([] : Heap)) ⟨AV.wk_refl_any _, AV.wk_refl_any _, AV.wk_refl_any _, AV.wk_refl_any _, AV.wk_refl_any _, trivial⟩) (.g (.f 1 (AV.tup []) (.e (AV.tup []) (by
        try delta Vjc_7
        first | (exfalso; omega) | ((first | rw [if_pos ow] at e1 | rw [if_neg ow] at e1); (first | rw [if_pos ow] at e2 | rw [if_neg ow] at e2); (first | rw [if_pos ow] at e3 | rw [if_neg ow] at e3); rw [e1, e2, e3])))))))) (fun h6 h6' => (.f 1 (AV.tup []) (.e (AV.tup []) (by
        try delta Vjc_7
        first | (exfalso; omega) | ((first | rw [if_pos ow] at e1 | rw [if_neg ow] at e1); (first | rw [if_pos ow] at e2 | rw [if_neg ow] at e2); (first | rw [if_pos ow] at e3 | rw [if_neg ow] at e3); rw [e1, e2, e3])))))))))) (fun h5 h5' => (.no (.no (.g (.no (.f 1 (AV.tup []) (.e (AV.tup []) (by
        try delta Vjc_7
        first | (exfalso; omega) | ((first | rw [if_pos ow] at e1 | rw [if_neg ow] at e1); (first | rw [if_pos ow] at e2 | rw [if_neg ow] at e2); (first | rw [if_pos ow] at e3 | rw [if_neg ow] at e3); rw [e1, e2, e3]))))))))))))))))) (fun h3 h3' => (.no (.no (.g (.no (.r (.two (decide (((mid : Nat) : Int) < (((mid + p) - i : Nat) : Int))) (fun h4 h4' => (.yes (.yes (.g (.two (decide ((((mid + p) - i : Nat) : Int) < ((b : Nat) : Int))) (fun h5 h5' => (.r (.ch 5 ([⟨g, 9, (List.map Card.row (mAt (ltF cmp) mid ((mid + p) - i) b l)), none⟩] : Heap) (ACalls.pre (args' := [(AV.osl 0 g 9 0 n), (AV.int .i64 ((mid : Nat) : Int)), (AV.int .i64 (((mid + p) - i : Nat) : Int)), (AV.int .i64 ((b : Nat) : Int)), (AV.func f xs)]) (ih_at mid ((mid + p) - i) b n g l (by first | (exfalso; omega) | ((first | rw [if_pos ow] at e1 | rw [if_neg ow] at e1); (first | rw [if_pos ow] at e2 | rw [if_neg ow] at e2); rw [e1, e2]; exact hlen2.symm)) (by first | exact hc | exact hxs | omega | (simp; omega)) (by first | exact hc | exact hxs | omega | (simp; omega)) (by first | exact hc | exact hxs | omega | (simp; omega)) (by first | exact hc | exact hxs | omega | (simp; omega)) (by first | exact hc | exact hxs | omega | (simp; omega)) (by first | (exfalso; omega) | ((first | rw [if_pos ow] at e1 | rw [if_neg ow] at e1); (first | rw [if_pos ow] at e2 | rw [if_neg ow] at e2); rw [e1, e2]; rw [show A ++ (mg (ltF cmp) L1 R1 ++ (L2 ++ (R2 ++ B))) = (A ++ mg (ltF cmp) L1 R1) ++ (L2 ++ (R2 ++ B)) by simp, piece (A ++ mg (ltF cmp) L1 R1) L2 _ (by simp [mg_len]; omega) ow]; exact q2)) (by first | (exfalso; omega) | ((first | rw [if_pos ow] at e1 | rw [if_neg ow] at e1); (first | rw [if_pos ow] at e2 | rw [if_neg ow] at e2); rw [e1, e2]; rw [show A ++ (mg (ltF cmp) L1 R1 ++ (L2 ++ (R2 ++ B))) = ((A ++ mg (ltF cmp) L1 R1) ++ L2) ++ (R2 ++ B) by simp, piece ((A ++ mg (ltF cmp) L1 R1) ++ L2) R2 _ (by simp [mg_len]; omega) ow]; exact q4)) ([] : Heap)) ⟨AV.wk_refl_any _, AV.wk_refl_any _, AV.wk_refl_any _, AV.wk_refl_any _, AV.wk_refl_any _, trivial⟩) (.g (.f 1 (AV.tup []) (.e (AV.tup []) (by
        try delta Vjc_7
        first | (exfalso; omega) | ((first | rw [if_pos ow] at e1 | rw [if_neg ow] at e1); (first | rw [if_pos ow] at e2 | rw [if_neg ow] at e2); (first | rw [if_pos ow] at e3 | rw [if_neg ow] at e3); rw [e1, e2, e3])))))))) (fun h5 h5' => (.f 1 (AV.tup []) (.e (AV.tup []) (by
        try delta Vjc_7
        first | (exfalso; omega) | ((first | rw [if_pos ow] at e1 | rw [if_neg ow] at e1); (first | rw [if_pos ow] at e2 | rw [if_neg ow] at e2); (first | rw [if_pos ow] at e3 | rw [if_neg ow] at e3); rw [e1, e2, e3])))))))))) (fun h4 h4' => (.no (.no (.g (.no (.f 1 (AV.tup []) (.e (AV.tup []) (by
        try delta Vjc_7
        first | (exfalso; omega) | ((first | rw [if_pos ow] at e1 | rw [if_neg ow] at e1); (first | rw [if_pos ow] at e2 | rw [if_neg ow] at e2); (first | rw [if_pos ow] at e3 | rw [if_neg ow] at e3); rw [e1, e2, e3])))))))))))))))))))))))) (fun h1 h1' => (.no (.no (.g (.no (.r (.two (decide (((a : Nat) : Int) < ((i : Nat) : Int))) (fun h2 h2' => (.yes (.yes (.g (.two (decide (((i : Nat) : Int) < ((mid : Nat) : Int))) (fun h3 h3' => (.r (.ch 5 ([⟨g, 9, (List.map Card.row (mAt (ltF cmp) a i mid l)), none⟩] : Heap) (ih_at a i mid n g l (by first | (exfalso; omega) | ((first | rw [if_pos ow] at e1 | rw [if_neg ow] at e1); rw [e1]; exact hlen1.symm)) (by first | exact hc | exact hxs | omega | (simp; omega)) (by first | exact hc | exact hxs | omega | (simp; omega)) (by first | exact hc | exact hxs | omega | (simp; omega)) (by first | exact hc | exact hxs | omega | (simp; omega)) (by first | exact hc | exact hxs | omega | (simp; omega)) (by first | (exfalso; omega) | ((first | rw [if_pos ow] at e1 | rw [if_neg ow] at e1); rw [e1]; rw [piece A L1 _ hA ow]; exact q1)) (by first | (exfalso; omega) | ((first | rw [if_pos ow] at e1 | rw [if_neg ow] at e1); rw [e1]; rw [show A ++ (L1 ++ (R1 ++ (L2 ++ (R2 ++ B)))) = (A ++ L1) ++ (R1 ++ (L2 ++ (R2 ++ B))) by simp, piece (A ++ L1) R1 _ (by simp; omega) ow]; exact q3)) ([] : Heap)) (.g (.r (.two (decide (((mid : Nat) : Int) < (((mid + p) - i : Nat) : Int))) (fun h4 h4' => (.yes (.yes (.g (.two (decide ((((mid + p) - i : Nat) : Int) < ((b : Nat) : Int))) (fun h5 h5' => (.r (.ch 5 ([⟨g, 9, (List.map Card.row (mAt (ltF cmp) mid ((mid + p) - i) b (mAt (ltF cmp) a i mid l))), none⟩] : Heap) (ACalls.pre (args' := [(AV.osl 0 g 9 0 n), (AV.int .i64 ((mid : Nat) : Int)), (AV.int .i64 (((mid + p) - i : Nat) : Int)), (AV.int .i64 ((b : Nat) : Int)), (AV.func f xs)]) (ih_at mid ((mid + p) - i) b n g (mAt (ltF cmp) a i mid l) (by first | (exfalso; omega) | ((first | rw [if_pos ow] at e1 | rw [if_neg ow] at e1); (first | rw [if_pos ow] at e2 | rw [if_neg ow] at e2); rw [e1, e2]; exact hlen2.symm)) (by first | exact hc | exact hxs | omega | (simp; omega)) (by first | exact hc | exact hxs | omega | (simp; omega)) (by first | exact hc | exact hxs | omega | (simp; omega)) (by first | exact hc | exact hxs | omega | (simp; omega)) (by first | exact hc | exact hxs | omega | (simp; omega)) (by first | (exfalso; omega) | ((first | rw [if_pos ow] at e1 | rw [if_neg ow] at e1); (first | rw [if_pos ow] at e2 | rw [if_neg ow] at e2); rw [e1, e2]; rw [show A ++ (mg (ltF cmp) L1 R1 ++ (L2 ++ (R2 ++ B))) = (A ++ mg (ltF cmp) L1 R1) ++ (L2 ++ (R2 ++ B)) by simp, piece (A ++ mg (ltF cmp) L1 R1) L2 _ (by simp [mg_len]; omega) ow]; exact q2)) (by first | (exfalso; omega) | ((first | rw [if_pos ow] at e1 | rw [if_neg ow] at e1); (first | rw [if_pos ow] at e2 | rw [if_neg ow] at e2); rw [e1, e2]; rw [show A ++ (mg (ltF cmp) L1 R1 ++ (L2 ++ (R2 ++ B))) = ((A ++ mg (ltF cmp) L1 R1) ++ L2) ++ (R2 ++ B) by simp, piece ((A ++ mg (ltF cmp) L1 R1) ++ L2) R2 _ (by simp [mg_len]; omega) ow]; exact q4)) ([] : Heap)) ⟨AV.wk_refl_any _, AV.wk_refl_any _, AV.wk_refl_any _, AV.wk_refl_any _, AV.wk_refl_any _, trivial⟩) (.g (.f 1 (AV.tup []) (.e (AV.tup []) (by
        try delta Vjc_7
        first | (exfalso; omega) | ((first | rw [if_pos ow] at e1 | rw [if_neg ow] at e1); (first | rw [if_pos ow] at e2 | rw [if_neg ow] at e2); (first | rw [if_pos ow] at e3 | rw [if_neg ow] at e3); rw [e1, e2, e3])))))))) (fun h5 h5' => (.f 1 (AV.tup []) (.e (AV.tup []) (by
        try delta Vjc_7
        first | (exfalso; omega) | ((first | rw [if_pos ow] at e1 | rw [if_neg ow] at e1); (first | rw [if_pos ow] at e2 | rw [if_neg ow] at e2); (first | rw [if_pos ow] at e3 | rw [if_neg ow] at e3); rw [e1, e2, e3])))))))))) (fun h4 h4' => (.no (.no (.g (.no (.f 1 (AV.tup []) (.e (AV.tup []) (by
        try delta Vjc_7
        first | (exfalso; omega) | ((first | rw [if_pos ow] at e1 | rw [if_neg ow] at e1); (first | rw [if_pos ow] at e2 | rw [if_neg ow] at e2); (first | rw [if_pos ow] at e3 | rw [if_neg ow] at e3); rw [e1, e2, e3]))))))))))))))) (fun h3 h3' => (.r (.two (decide (((mid : Nat) : Int) < (((mid + p) - i : Nat) : Int))) (fun h4 h4' => (.yes (.yes (.g (.two (decide ((((mid + p) - i : Nat) : Int) < ((b : Nat) : Int))) (fun h5 h5' => (.r (.ch 5 ([⟨g, 9, (List.map Card.row (mAt (ltF cmp) mid ((mid + p) - i) b l)), none⟩] : Heap) (ACalls.pre (args' := [(AV.osl 0 g 9 0 n), (AV.int .i64 ((mid : Nat) : Int)), (AV.int .i64 (((mid + p) - i : Nat) : Int)), (AV.int .i64 ((b : Nat) : Int)), (AV.func f xs)]) (ih_at mid ((mid + p) - i) b n g l (by first | (exfalso; omega) | ((first | rw [if_pos ow] at e1 | rw [if_neg ow] at e1); (first | rw [if_pos ow] at e2 | rw [if_neg ow] at e2); rw [e1, e2]; exact hlen2.symm)) (by first | exact hc | exact hxs | omega | (simp; omega)) (by first | exact hc | exact hxs | omega | (simp; omega)) (by first | exact hc | exact hxs | omega | (simp; omega)) (by first | exact hc | exact hxs | omega | (simp; omega)) (by first | exact hc | exact hxs | omega | (simp; omega)) (by first | (exfalso; omega) | ((first | rw [if_pos ow] at e1 | rw [if_neg ow] at e1); (first | rw [if_pos ow] at e2 | rw [if_neg ow] at e2); rw [e1, e2]; rw [show A ++ (mg (ltF cmp) L1 R1 ++ (L2 ++ (R2 ++ B))) = (A ++ mg (ltF cmp) L1 R1) ++ (L2 ++ (R2 ++ B)) by simp, piece (A ++ mg (ltF cmp) L1 R1) L2 _ (by simp [mg_len]; omega) ow]; exact q2)) (by first | (exfalso; omega) | ((first | rw [if_pos ow] at e1 | rw [if_neg ow] at e1); (first | rw [if_pos ow] at e2 | rw [if_neg ow] at e2); rw [e1, e2]; rw [show A ++ (mg (ltF cmp) L1 R1 ++ (L2 ++ (R2 ++ B))) = ((A ++ mg (ltF cmp) L1 R1) ++ L2) ++ (R2 ++ B) by simp, piece ((A ++ mg (ltF cmp) L1 R1) ++ L2) R2 _ (by simp [mg_len]; omega) ow]; exact q4)) ([] : Heap)) ⟨AV.wk_refl_any _, AV.wk_refl_any _, AV.wk_refl_any _, AV.wk_refl_any _, AV.wk_refl_any _, trivial⟩) (.g (.f 1 (AV.tup []) (.e (AV.tup []) (by
        try delta Vjc_7
        first | (exfalso; omega) | ((first | rw [if_pos ow] at e1 | rw [if_neg ow] at e1); (first | rw [if_pos ow] at e2 | rw [if_neg ow] at e2); (first | rw [if_pos ow] at e3 | rw [if_neg ow] at e3); rw [e1, e2, e3])))))))) (fun h5 h5' => (.f 1 (AV.tup []) (.e (AV.tup []) (by
        try delta Vjc_7
        first | (exfalso; omega) | ((first | rw [if_pos ow] at e1 | rw [if_neg ow] at e1); (first | rw [if_pos ow] at e2 | rw [if_neg ow] at e2); (first | rw [if_pos ow] at e3 | rw [if_neg ow] at e3); rw [e1, e2, e3])))))))))) (fun h4 h4' => (.no (.no (.g (.no (.f 1 (AV.tup []) (.e (AV.tup []) (by
        try delta Vjc_7
        first | (exfalso; omega) | ((first | rw [if_pos ow] at e1 | rw [if_neg ow] at e1); (first | rw [if_pos ow] at e2 | rw [if_neg ow] at e2); (first | rw [if_pos ow] at e3 | rw [if_neg ow] at e3); rw [e1, e2, e3]))))))))))))))))) (fun h2 h2' => (.no (.no (.g (.no (.r (.two (decide (((mid : Nat) : Int) < (((mid + p) - i : Nat) : Int))) (fun h3 h3' => (.yes (.yes (.g (.two (decide ((((mid + p) - i : Nat) : Int) < ((b : Nat) : Int))) (fun h4 h4' => (.r (.ch 5 ([⟨g, 9, (List.map Card.row (mAt (ltF cmp) mid ((mid + p) - i) b l)), none⟩] : Heap) (ACalls.pre (args' := [(AV.osl 0 g 9 0 n), (AV.int .i64 ((mid : Nat) : Int)), (AV.int .i64 (((mid + p) - i : Nat) : Int)), (AV.int .i64 ((b : Nat) : Int)), (AV.func f xs)]) (ih_at mid ((mid + p) - i) b n g l (by first | (exfalso; omega) | ((first | rw [if_pos ow] at e1 | rw [if_neg ow] at e1); (first | rw [if_pos ow] at e2 | rw [if_neg ow] at e2); rw [e1, e2]; exact hlen2.symm)) (by first | exact hc | exact hxs | omega | (simp; omega)) (by first | exact hc | exact hxs | omega | (simp; omega)) (by first | exact hc | exact hxs | omega | (simp; omega)) (by first | exact hc | exact hxs | omega | (simp; omega)) (by first | exact hc | exact hxs | omega | (simp; omega)) (by first | (exfalso; omega) | ((first | rw [if_pos ow] at e1 | rw [if_neg ow] at e1); (first | rw [if_pos ow] at e2 | rw [if_neg ow] at e2); rw [e1, e2]; rw [show A ++ (mg (ltF cmp) L1 R1 ++ (L2 ++ (R2 ++ B))) = (A ++ mg (ltF cmp) L1 R1) ++ (L2 ++ (R2 ++ B)) by simp, piece (A ++ mg (ltF cmp) L1 R1) L2 _ (by simp [mg_len]; omega) ow]; exact q2)) (by first | (exfalso; omega) | ((first | rw [if_pos ow] at e1 | rw [if_neg ow] at e1); (first | rw [if_pos ow] at e2 | rw [if_neg ow] at e2); rw [e1, e2]; rw [show A ++ (mg (ltF cmp) L1 R1 ++ (L2 ++ (R2 ++ B))) = ((A ++ mg (ltF cmp) L1 R1) ++ L2) ++ (R2 ++ B) by simp, piece ((A ++ mg (ltF cmp) L1 R1) ++ L2) R2 _ (by simp [mg_len]; omega) ow]; exact q4)) ([] : Heap)) ⟨AV.wk_refl_any _, AV.wk_refl_any _, AV.wk_refl_any _, AV.wk_refl_any _, AV.wk_refl_any _, trivial⟩) (.g (.f 1 (AV.tup []) (.e (AV.tup []) (by
        try delta Vjc_7
        first | (exfalso; omega) | ((first | rw [if_pos ow] at e1 | rw [if_neg ow] at e1); (first | rw [if_pos ow] at e2 | rw [if_neg ow] at e2); (first | rw [if_pos ow] at e3 | rw [if_neg ow] at e3); rw [e1, e2, e3])))))))) (fun h4 h4' => (.f 1 (AV.tup []) (.e (AV.tup []) (by
        try delta Vjc_7
        first | (exfalso; omega) | ((first | rw [if_pos ow] at e1 | rw [if_neg ow] at e1); (first | rw [if_pos ow] at e2 | rw [if_neg ow] at e2); (first | rw [if_pos ow] at e3 | rw [if_neg ow] at e3); rw [e1, e2, e3])))))))))) (fun h3 h3' => (.no (.no (.g (.no (.f 1 (AV.tup []) (.e (AV.tup []) (by
        try delta Vjc_7
        first | (exfalso; omega) | ((first | rw [if_pos ow] at e1 | rw [if_neg ow] at e1); (first | rw [if_pos ow] at e2 | rw [if_neg ow] at e2); (first | rw [if_pos ow] at e3 | rw [if_neg ow] at e3); rw [e1, e2, e3]))))))))))))))))))))))))))))))))))))))))))))))))))))))))))))
set_option maxHeartbeats 4000000 in
set_option maxRecDepth 100000 in
theorem sCD_spec (cmp : Card → Card → Int) (f : Nat) (xs : List AV) (A L1 L2 R1 R2 B : List Card) (a p b n g i mid Nz : Nat) (l : List Card) (hc : ∀ (x y : Card) (H : Heap), ACalls Try.prog f ([AV.agg (Card.row x), AV.agg (Card.row y)] ++ xs) H (AV.int .i64 (cmp x y), H)) (hxs : AV.bdds 1 xs = true) (hn : n = l.length) (hnb : n < 1048576) (ih_at : ∀ (a p b n g : Nat) (l : List Card), n = l.length → n < 1048576 → a < p → p < b → b ≤ n → b - a < Nz → Srt (ltF cmp) ((l.drop a).take (p - a)) → Srt (ltF cmp) ((l.drop p).take (b - p)) → ∀ H : Heap, ACalls Try.prog 157 [(.osl 0 g 9 0 n), (.int .i64 ((a : Nat) : Int)), (.int .i64 ((p : Nat) : Int)), (.int .i64 ((b : Nat) : Int)), (.func f xs)] (([⟨g, 9, (List.map Card.row l), none⟩] : Heap) ++ H) (.tup [], ([⟨g, 9, (List.map Card.row (mAt (ltF cmp) a p b l)), none⟩] : Heap) ++ H)) (hl : l = A ++ (L1 ++ (L2 ++ (R1 ++ (R2 ++ B))))) (hA : a = A.length) (hi : i = a + L1.length) (hp : p = i + L2.length) (hR1 : mid = i + R1.length) (hb : b = p + R1.length + R2.length) (hbn : b ≤ n) (hap : a < p) (hpb : p < b) (h1 : p ≠ a + 1) (h2 : b ≠ p + 1) (hmid : mid = (a + b) / 2) (hNz : b - a ≤ Nz) (hgt : p ≤ mid) (hs : i = bsr (fun c => !decide (cmp (nth l (mid + p - 1 - c)) (nth l c) < 0)) (p - (a)) (a) p) (hlo : a ≤ i) (hhi : i ≤ p) (q1 : Srt (ltF cmp) L1) (q2 : Srt (ltF cmp) L2) (q3 : Srt (ltF cmp) R1) (q4 : Srt (ltF cmp) R2) : ACalls Try.prog 157 [(.osl 0 g 9 0 n), (.int .i64 ((a : Nat) : Int)), (.int .i64 ((p : Nat) : Int)), (.int .i64 ((b : Nat) : Int)), (.func f xs)] ([⟨g, 9, (List.map Card.row l), none⟩] : Heap) ((AV.tup []), ([⟨g, 9, (List.map Card.row (A ++ (mg (ltF cmp) L1 R1 ++ (mg (ltF cmp) L2 R2 ++ B)))), none⟩] : Heap)) := by
  have hll : n = A.length + L1.length + L2.length + R1.length + R2.length + B.length := by rw [hn, hl]; simp; omega
  have e1 := sm1 A L1 L2 R1 R2 B hl (s := i) (m := p) (e := mid + p - i) ow hp ow
  have e2 := sm2 (ltF cmp) A L1 R1 (L2 ++ (R2 ++ B)) (a := a) (s := i) (mid := mid) hA hi hR1
  have e3 := sm3 (ltF cmp) A (mg (ltF cmp) L1 R1) L2 R2 B (mid := mid) (e := mid + p - i) (b := b) (by rw [mg_len]; omega) ow ow
  have hrot : 0 < L2.length → 0 < R1.length → _ := rot_facts (A ++ L1) L2 R1 (R2 ++ B) (l := l) (by rw [hl]; simp) (a := i) (m := p) (b := mid + p - i) (by simp; omega) hp ow
  have hlen2 : (A ++ (mg (ltF cmp) L1 R1 ++ (L2 ++ (R2 ++ B)))).length = n := by rw [hll]; simp [mg_len]; omega
  have hlen1 : (A ++ (L1 ++ (R1 ++ (L2 ++ (R2 ++ B))))).length = n := by rw [hll]; simp; omega
  exact specO (fn := Try.f157) (ann := sC_ann) (Has.o Try.func157) (.r (.y 2 (.int .i64 (IntKind.i64.wrap (((p : Nat) : Int) - ((a : Nat) : Int)))) (AV.int .i64 ((p - a : Nat) : Int)) (Yes.add ow ow ow) (.y 3 (AV.bool (((p - a : Nat) : Int) == 1)) (AV.bool false) (Yes.bool (by exact beq_eq_false_iff_ne.2 ow)) (.g (.no (.r (.y 2 (.int .i64 (IntKind.i64.wrap (((b : Nat) : Int) - ((p : Nat) : Int)))) (AV.int .i64 ((b - p : Nat) : Int)) (Yes.add ow ow ow) (.y 3 (AV.bool (((b - p : Nat) : Int) == 1)) (AV.bool false) (Yes.bool (by exact beq_eq_false_iff_ne.2 ow)) (.g (.no (.r (.y 2 (.int .i64 (IntKind.i64.wrap (((a : Nat) : Int) + ((b : Nat) : Int)))) (AV.int .i64 ((a + b : Nat) : Int)) (Yes.add ow ow ow) (.y 5 (AV.int .i64 (IntKind.i64.wrap (Int.fdiv (IntKind.u64.wrap ((a + b : Nat) : Int)) (2 ^ (min (Int.toNat 1) 64))))) (AV.int .i64 ((mid : Nat) : Int)) (Yes.int (half_nat ow ow)) (.g (.r (.y 2 (.int .i64 (IntKind.i64.wrap (((mid : Nat) : Int) + ((p : Nat) : Int)))) (AV.int .i64 ((mid + p : Nat) : Int)) (Yes.add ow ow ow) (.g (.r (.g (.r (.y 2 (AV.bool (decide (((p : Nat) : Int) > ((mid : Nat) : Int)))) (AV.bool false) (Yes.bool (by exact decide_eq_false ow)) (.g (.no (.r (.g (.r (.g (.r (.y 1 (.int .i64 (IntKind.i64.wrap (((mid + p : Nat) : Int) - 1))) (AV.int .i64 ((mid + p - 1 : Nat) : Int)) (Yes.add ow ow ow) (.g (.loop (Vjc_6 g n a p b f xs mid i) (show LoopTo (codeQ Try.prog (X sC_ann) (loopOf Try.f157 4)) (some [0, 1, 2, 3, 4, 18, 19, 20, 21, 22]) (some [0, 1, 2, 3, 4, 18, 19, 20]) (mkF 220 [(0, (.osl 0 g 9 0 n)), (1, (.int .i64 ((a : Nat) : Int))), (2, (.int .i64 ((p : Nat) : Int))), (3, (.int .i64 ((b : Nat) : Int))), (4, (.func f xs)), (18, (.int .i64 ((mid : Nat) : Int))), (19, (.int .i64 ((mid + p : Nat) : Int))), (20, (.int .i64 ((a : Nat) : Int))), (21, (.int .i64 ((p : Nat) : Int))), (22, (.int .i64 ((mid + p - 1 : Nat) : Int)))]) ([⟨g, 9, (List.map Card.row l), none⟩] : Heap) (.exit 8) (Vjc_6 g n a p b f xs mid i) ([⟨g, 9, (List.map Card.row l), none⟩] : Heap) from (by rw [hs]; exact sCc_loop cmp f xs hc a p b mid (mid + p) (mid + p - 1) n g l hn hnb (p - (a)) a p ow ow ow)) (.r (.y 2 (.int .i64 (IntKind.i64.wrap ((((mid + p) : Nat) : Int) - ((i : Nat) : Int)))) (AV.int .i64 (((mid + p) - i : Nat) : Int)) (Yes.add ow ow ow) (.g (.r (.two (decide (((i : Nat) : Int) < ((p : Nat) : Int))) (fun h1 h1' => (.yes (.yes (.g (.two (decide (((p : Nat) : Int) < (((mid + p) - i : Nat) : Int))) (fun h2 h2' => (.r (.ch 5 (Vjc_7 g i p mid l) (ACalls.pre (args' := [(.osl 0 g 9 0 n), (.int .i64 ((i : Nat) : Int)), (.int .i64 ((p : Nat) : Int)), (.int .i64 (((mid + p) - i : Nat) : Int)), (.func f xs)]) (mCr_at f xs i p ((mid + p) - i) n g l (by first | exact hc | exact hxs | omega | (simp; omega)) (by first | exact hc | exact hxs | omega | (simp; omega)) (by first | exact hc | exact hxs | omega | (simp; omega)) (by first | exact hc | exact hxs | omega | (simp; omega)) (by first | exact hc | exact hxs | omega | (simp; omega)) (by first | exact hc | exact hxs | omega | (simp; omega)) ((hrot ow ow).1) ((hrot ow ow).2.1) ((hrot ow ow).2.2) ([] : Heap)) ⟨AV.wk_refl_any _, AV.wk_refl_any _, AV.wk_refl_any _, AV.wk_refl_any _, AV.wk_refl_any _, trivial⟩) (.g (.r (.two (decide (((a : Nat) : Int) < ((i : Nat) : Int))) (fun h3 h3' => (.yes (.yes (.g (.two (decide (((i : Nat) : Int) < ((mid : Nat) : Int))) (fun h4 h4' => (.r (.ch 5 ([⟨g, 9, (List.map Card.row (mAt (ltF cmp) a i mid (rotL i p ((mid + p) - i) l))), none⟩] : Heap) (ih_at a i mid n g (rotL i p ((mid + p) - i) l) (by first | (exfalso; omega) | ((first | rw [if_pos ow] at e1 | rw [if_neg ow] at e1); rw [e1]; exact hlen1.symm)) (by first | exact hc | exact hxs | omega | (simp; omega)) (by first | exact hc | exact hxs | omega | (simp; omega)) (by first | exact hc | exact hxs | omega | (simp; omega)) (by first | exact hc | exact hxs | omega | (simp; omega)) (by first | exact hc | exact hxs | omega | (simp; omega)) (by first | (exfalso; omega) | ((first | rw [if_pos ow] at e1 | rw [if_neg ow] at e1); rw [e1]; rw [piece A L1 _ hA ow]; exact q1)) (by first | (exfalso; omega) | ((first | rw [if_pos ow] at e1 | rw [if_neg ow] at e1); rw [e1]; rw [show A ++ (L1 ++ (R1 ++ (L2 ++ (R2 ++ B)))) = (A ++ L1) ++ (R1 ++ (L2 ++ (R2 ++ B))) by simp, piece (A ++ L1) R1 _ (by simp; omega) ow]; exact q3)) ([] : Heap)) (.g (.r (.two (decide (((mid : Nat) : Int) < (((mid + p) - i : Nat) : Int))) (fun h5 h5' => (.yes (.yes (.g (.two (decide ((((mid + p) - i : Nat) : Int) < ((b : Nat) : Int))) (fun h6 h6' => (.r (.ch 5 ([⟨g, 9, (List.map Card.row (mAt (ltF cmp) mid ((mid + p) - i) b (mAt (ltF cmp) a i mid (rotL i p ((mid + p) - i) l)))), none⟩] : Heap) (ACalls.pre (args' := [(.osl 0 g 9 0 n), (.int .i64 ((mid : Nat) : Int)), (.int .i64 (((mid + p) - i : Nat) : Int)), (.int .i64 ((b : Nat) : Int)), (.func f xs)]) (ih_at mid ((mid + p) - i) b n g (mAt (ltF cmp) a i mid (rotL i p ((mid + p) - i) l)) (by first | (exfalso; omega) | ((first | rw [if_pos ow] at e1 | rw [if_neg ow] at e1); (first | rw [if_pos ow] at e2 | rw [if_neg ow] at e2); rw [e1, e2]; exact hlen2.symm)) (by first | exact hc | exact hxs | omega | (simp; omega)) (by first | exact hc | exact hxs | omega | (simp; omega)) (by first | exact hc | exact hxs | omega | (simp; omega)) (by first | exact hc | exact hxs | omega | (simp; omega)) (by first | exact hc | exact hxs | omega | (simp; omega)) (by first | (exfalso; omega) | ((first | rw [if_pos ow] at e1 | rw [if_neg ow] at e1); (first | rw [if_pos ow] at e2 | rw [if_neg ow] at e2); rw [e1, e2]; rw [show A ++ (mg (ltF cmp) L1 R1 ++ (L2 ++ (R2 ++ B))) = (A ++ mg (ltF cmp) L1 R1) ++ (L2 ++ (R2 ++ B)) by simp, piece (A ++ mg (ltF cmp) L1 R1) L2 _ (by simp [mg_len]; omega) ow]; exact q2)) (by first | (exfalso; omega) | ((first | rw [if_pos ow] at e1 | rw [if_neg ow] at e1); (first | rw [if_pos ow] at e2 | rw [if_neg ow] at e2); rw [e1, e2]; rw [show A ++ (mg (ltF cmp) L1 R1 ++ (L2 ++ (R2 ++ B))) = ((A ++ mg (ltF cmp) L1 R1) ++ L2) ++ (R2 ++ B) by simp, piece ((A ++ mg (ltF cmp) L1 R1) ++ L2) R2 _ (by simp [mg_len]; omega) ow]; exact q4)) ([] : Heap)) ⟨AV.wk_refl_any _, AV.wk_refl_any _, AV.wk_refl_any _, AV.wk_refl_any _, AV.wk_refl_any _, trivial⟩) (.g (.f 1 (AV.tup []) (.e (AV.tup []) (by
        try delta Vjc_7
        first | (exfalso; omega) | ((first | rw [if_pos ow] at e1 | rw [if_neg ow] at e1); (first | rw [if_pos ow] at e2 | rw [if_neg ow] at e2); (first | rw [if_pos ow] at e3 | rw [if_neg ow] at e3); rw [e1, e2, e3])))))))) (fun h6 h6' => (.f 1 (AV.tup []) (.e (AV.tup []) (by
        try delta Vjc_7
        first | (exfalso; omega) | ((first | rw [if_pos ow] at e1 | rw [if_neg ow] at e1); (first | rw [if_pos ow] at e2 | rw [if_neg ow] at e2); (first | rw [if_pos ow] at e3 | rw [if_neg ow] at e3); rw [e1, e2, e3])))))))))) (fun h5 h5' => (.no (.no (.g (.no (.f 1 (AV.tup []) (.e (AV.tup []) (by
        try delta Vjc_7
        first | (exfalso; omega) | ((first | rw [if_pos ow] at e1 | rw [if_neg ow] at e1); (first | rw [if_pos ow] at e2 | rw [if_neg ow] at e2); (first | rw [if_pos ow] at e3 | rw [if_neg ow] at e3); rw [e1, e2, e3]))))))))))))))) (fun h4 h4' => (.r (.two (decide (((mid : Nat) : Int) < (((mid + p) - i : Nat) : Int))) (fun h5 h5' => (.yes (.yes (.g (.two (decide ((((mid + p) - i : Nat) : Int) < ((b : Nat) : Int))) (fun h6 h6' => (.r (.ch 5 ([⟨g, 9, (List.map Card.row (mAt (ltF cmp) mid ((mid + p) - i) b (rotL i p ((mid + p) - i) l))), none⟩] : Heap) (ACalls.pre (args' := [(AV.osl 0 g 9 0 n), (AV.int .i64 ((mid : Nat) : Int)), (AV.int .i64 (((mid + p) - i : Nat) : Int)), (AV.int .i64 ((b : Nat) : Int)), (AV.func f xs)]) (ih_at mid ((mid + p) - i) b n g (rotL i p ((mid + p) - i) l) (by first | (exfalso; omega) | ((first | rw [if_pos ow] at e1 | rw [if_neg ow] at e1); (first | rw [if_pos ow] at e2 | rw [if_neg ow] at e2); rw [e1, e2]; exact hlen2.symm)) (by first | exact hc | exact hxs | omega | (simp; omega)) (by first | exact hc | exact hxs | omega | (simp; omega)) (by first | exact hc | exact hxs | omega | (simp; omega)) (by first | exact hc | exact hxs | omega | (simp; omega)) (by first | exact hc | exact hxs | omega | (simp; omega)) (by first | (exfalso; omega) | ((first | rw [if_pos ow] at e1 | rw [if_neg ow] at e1); (first | rw [if_pos ow] at e2 | rw [if_neg ow] at e2); rw [e1, e2]; rw [show A ++ (mg (ltF cmp) L1 R1 ++ (L2 ++ (R2 ++ B))) = (A ++ mg (ltF cmp) L1 R1) ++ (L2 ++ (R2 ++ B)) by simp, piece (A ++ mg (ltF cmp) L1 R1) L2 _ (by simp [mg_len]; omega) ow]; exact q2)) (by first | (exfalso; omega) | ((first | rw [if_pos ow] at e1 | rw [if_neg ow] at e1); (first | rw [if_pos ow] at e2 | rw [if_neg ow] at e2); rw [e1, e2]; rw [show A ++ (mg (ltF cmp) L1 R1 ++ (L2 ++ (R2 ++ B))) = ((A ++ mg (ltF cmp) L1 R1) ++ L2) ++ (R2 ++ B) by simp, piece ((A ++ mg (ltF cmp) L1 R1) ++ L2) R2 _ (by simp [mg_len]; omega) ow]; exact q4)) ([] : Heap)) ⟨AV.wk_refl_any _, AV.wk_refl_any _, AV.wk_refl_any _, AV.wk_refl_any _, AV.wk_refl_any _, trivial⟩) (.g (.f 1 (AV.tup []) (.e (AV.tup []) (by
        try delta Vjc_7
        first | (exfalso; omega) | ((first | rw [if_pos ow] at e1 | rw [if_neg ow] at e1); (first | rw [if_pos ow] at e2 | rw [if_neg ow] at e2); (first | rw [if_pos ow] at e3 | rw [if_neg ow] at e3); rw [e1, e2, e3])))))))) (fun h6 h6' => (.f 1 (AV.tup []) (.e (AV.tup []) (by
        try delta Vjc_7
        first | (exfalso; omega) | ((first | rw [if_pos ow] at e1 | rw [if_neg ow] at e1); (first | rw [if_pos ow] at e2 | rw [if_neg ow] at e2); (first | rw [if_pos ow] at e3 | rw [if_neg ow] at e3); rw [e1, e2, e3])))))))))) (fun h5 h5' => (.no (.no (.g (.no (.f 1 (AV.tup []) (.e (AV.tup []) (by
        try delta Vjc_7
        first | (exfalso; omega) | ((first | rw [if_pos ow] at e1 | rw [if_neg ow] at e1); (first | rw [if_pos ow] at e2 | rw [if_neg ow] at e2); (first | rw [if_pos ow] at e3 | rw [if_neg ow] at e3); rw [e1, e2, e3]))))))))))))))))) (fun h3 h3' => (.no (.no (.g (.no (.r (.two (decide (((mid : Nat) : Int) < (((mid + p) - i : Nat) : Int))) (fun h4 h4' => (.yes (.yes (.g (.two (decide ((((mid + p) - i : Nat) : Int) < ((b : Nat) : Int))) (fun h5 h5' => (.r (.ch 5 ([⟨g, 9, (List.map Card.row (mAt (ltF cmp) mid ((mid + p) - i) b (rotL i p ((mid + p) - i) l))), none⟩] : Heap) (ACalls.pre (args' := [(AV.osl 0 g 9 0 n), (AV.int .i64 ((mid : Nat) : Int)), (AV.int .i64 (((mid + p) - i : Nat) : Int)), (AV.int .i64 ((b : Nat) : Int)), (AV.func f xs)]) (ih_at mid ((mid + p) - i) b n g (rotL i p ((mid + p) - i) l) (by first | (exfalso; omega) | ((first | rw [if_pos ow] at e1 | rw [if_neg ow] at e1); (first | rw [if_pos ow] at e2 | rw [if_neg ow] at e2); rw [e1, e2]; exact hlen2.symm)) (by first | exact hc | exact hxs | omega | (simp; omega)) (by first | exact hc | exact hxs | omega | (simp; omega)) (by first | exact hc | exact hxs | omega | (simp; omega)) (by first | exact hc | exact hxs | omega | (simp; omega)) (by first | exact hc | exact hxs | omega | (simp; omega)) (by first | (exfalso; omega) | ((first | rw [if_pos ow] at e1 | rw [if_neg ow] at e1); (first | rw [if_pos ow] at e2 | rw [if_neg ow] at e2); rw [e1, e2]; rw [show A ++ (mg (ltF cmp) L1 R1 ++ (L2 ++ (R2 ++ B))) = (A ++ mg (ltF cmp) L1 R1) ++ (L2 ++ (R2 ++ B)) by simp, piece (A ++ mg (ltF cmp) L1 R1) L2 _ (by simp [mg_len]; omega) ow]; exact q2)) (by first | (exfalso; omega) | ((first | rw [if_pos ow] at e1 | rw [if_neg ow] at e1); (first | rw [if_pos ow] at e2 | rw [if_neg ow] at e2); rw [e1, e2]; rw [show A ++ (mg (ltF cmp) L1 R1 ++ (L2 ++ (R2 ++ B))) = ((A ++ mg (ltF cmp) L1 R1) ++ L2) ++ (R2 ++ B) by simp, piece ((A ++ mg (ltF cmp) L1 R1) ++ L2) R2 _ (by simp [mg_len]; omega) ow]; exact q4)) ([] : Heap)) ⟨AV.wk_refl_any _, AV.wk_refl_any _, AV.wk_refl_any _, AV.wk_refl_any _, AV.wk_refl_any _, trivial⟩) (.g (.f 1 (AV.tup []) (.e (AV.tup []) (by
        try delta Vjc_7
        first | (exfalso; omega) | ((first | rw [if_pos ow] at e1 | rw [if_neg ow] at e1); (first | rw [if_pos ow] at e2 | rw [if_neg ow] at e2); (first | rw [if_pos ow] at e3 | rw [if_neg ow] at e3); rw [e1, e2, e3])))))))) (fun h5 h5' => (.f 1 (AV.tup []) (.e (AV.tup []) (by
        try delta Vjc_7
        first | (exfalso; omega) | ((first | rw [if_pos ow] at e1 | rw [if_neg ow] at e1); (first | rw [if_pos ow] at e2 | rw [if_neg ow] at e2); (first | rw [if_pos ow] at e3 | rw [if_neg ow] at e3); rw [e1, e2, e3])))))))))) (fun h4 h4' => (.no (.no (.g (.no (.f 1 (AV.tup []) (.e (AV.tup []) (by
        try delta Vjc_7
        first | (exfalso; omega) | ((first | rw [if_pos ow] at e1 | rw [if_neg ow] at e1); (first | rw [if_pos ow] at e2 | rw [if_neg ow] at e2); (first | rw [if_pos ow] at e3 | rw [if_neg ow] at e3); rw [e1, e2, e3])))))))))))))))))))))) (fun h2 h2' => (.r (.two (decide (((a : Nat) : Int) < ((i : Nat) : Int))) (fun h3 h3' => (.yes (.yes (.g (.two (decide (((i : Nat) : Int) < ((mid : Nat) : Int))) (fun h4 h4' => (.r (.ch 5 ([⟨g, 9, (List.map Card.row (mAt (ltF cmp) a i mid l)), none⟩] : Heap) (ih_at a i mid n g l (by first | (exfalso; omega) | ((first | rw [if_pos ow] at e1 | rw [if_neg ow] at e1); rw [e1]; exact hlen1.symm)) (by first | exact hc | exact hxs | omega | (simp; omega)) (by first | exact hc | exact hxs | omega | (simp; omega)) (by first | exact hc | exact hxs | omega | (simp; omega)) (by first | exact hc | exact hxs | omega | (simp; omega)) (by first | exact hc | exact hxs | omega | (simp; omega)) (by first | (exfalso; omega) | ((first | rw [if_pos ow] at e1 | rw [if_neg ow] at e1); rw [e1]; rw [piece A L1 _ hA ow]; exact q1)) (by first | (exfalso; omega) | ((first | rw [if_pos ow] at e1 | rw [if_neg ow] at e1); rw [e1]; rw [show A ++ (L1 ++ (R1 ++ (L2 ++ (R2 ++ B)))) = (A ++ L1) ++ (R1 ++ (L2 ++ (R2 ++ B))) by simp, piece (A ++ L1) R1 _ (by simp; omega) ow]; exact q3)) ([] : Heap)) (.g (.r (.two (decide (((mid : Nat) : Int) < (((mid + p) - i : Nat) : Int))) (fun h5 h5' => (.yes (.yes (.g (.two (decide ((((mid + p) - i : Nat) : Int) < ((b : Nat) : Int))) (fun h6 h6' => (.r (.ch 5 ([⟨g, 9, (List.map Card.row (mAt (ltF cmp) mid ((mid + p) - i) b (mAt (ltF cmp) a i mid l))), none⟩] : Heap) (ACalls.pre (args' := [(AV.osl 0 g 9 0 n), (AV.int .i64 ((mid : Nat) : Int)), (AV.int .i64 (((mid + p) - i : Nat) : Int)), (AV.int .i64 ((b : Nat) : Int)), (AV.func f xs)]) (ih_at mid ((mid + p) - i) b n g (mAt (ltF cmp) a i mid l) (by first | (exfalso; omega) | ((first | rw [if_pos ow] at e1 | rw [if_neg ow] at e1); (first | rw [if_pos ow] at e2 | rw [if_neg ow] at e2); rw [e1, e2]; exact hlen2.symm)) (by first | exact hc | exact hxs | omega | (simp; omega)) (by first | exact hc | exact hxs | omega | (simp; omega)) (by first | exact hc | exact hxs | omega | (simp; omega)) (by first | exact hc | exact hxs | omega | (simp; omega)) (by first | exact hc | exact hxs | omega | (simp; omega)) (by first | (exfalso; omega) | ((first | rw [if_pos ow] at e1 | rw [if_neg ow] at e1); (first | rw [if_pos ow] at e2 | rw [if_neg ow] at e2); rw [e1, e2]; rw [show A ++ (mg (ltF cmp) L1 R1 ++ (L2 ++ (R2 ++ B))) = (A ++ mg (ltF cmp) L1 R1) ++ (L2 ++ (R2 ++ B)) by simp, piece (A ++ mg (ltF cmp) L1 R1) L2 _ (by simp [mg_len]; omega) ow]; exact q2)) (by first | (exfalso; omega) | ((first | rw [if_pos ow] at e1 | rw [if_neg ow] at e1); (first | rw [if_pos ow] at e2 | rw [if_neg ow] at e2); rw [e1, e2]; rw [show A ++ (mg (ltF cmp) L1 R1 ++ (L2 ++ (R2 ++ B))) = ((A ++ mg (ltF cmp) L1 R1) ++ L2) ++ (R2 ++ B) by simp, piece ((A ++ mg (ltF cmp) L1 R1) ++ L2) R2 _ (by simp [mg_len]; omega) ow]; exact q4)) ([] : Heap)) ⟨AV.wk_refl_any _, AV.wk_refl_any _, AV.wk_refl_any _, AV.wk_refl_any _, AV.wk_refl_any _, trivial⟩) (.g (.f 1 (AV.tup []) (.e (AV.tup []) (by
        try delta Vjc_7
        first | (exfalso; omega) | ((first | rw [if_pos ow] at e1 | rw [if_neg ow] at e1); (first | rw [if_pos ow] at e2 | rw [if_neg ow] at e2); (first | rw [if_pos ow] at e3 | rw [if_neg ow] at e3); rw [e1, e2, e3])))))))) (fun h6 h6' => (.f 1 (AV.tup []) (.e (AV.tup []) (by
        try delta Vjc_7
        first | (exfalso; omega) | ((first | rw [if_pos ow] at e1 | rw [if_neg ow] at e1); (first | rw [if_pos ow] at e2 | rw [if_neg ow] at e2); (first | rw [if_pos ow] at e3 | rw [if_neg ow] at e3); rw [e1, e2, e3])))))))))) (fun h5 h5' => (.no (.no (.g (.no (.f 1 (AV.tup []) (.e (AV.tup []) (by
        try delta Vjc_7
        first | (exfalso; omega) | ((first | rw [if_pos ow] at e1 | rw [if_neg ow] at e1); (first | rw [if_pos ow] at e2 | rw [if_neg ow] at e2); (first | rw [if_pos ow] at e3 | rw [if_neg ow] at e3); rw [e1, e2, e3]))))))))))))))) (fun h4 h4' => (.r (.two (decide (((mid : Nat) : Int) < (((mid + p) - i : Nat) : Int))) (fun h5 h5' => (.yes (.yes (.g (.two (decide ((((mid + p) - i : Nat) : Int) < ((b : Nat) : Int))) (fun h6 h6' => (.r (.ch 5 ([⟨g, 9, (List.map Card.row (mAt (ltF cmp) mid ((mid + p) - i) b l)), none⟩] : Heap) (ACalls.pre (args' := [(AV.osl 0 g 9 0 n), (AV.int .i64 ((mid : Nat) : Int)), (AV.int .i64 (((mid + p) - i : Nat) : Int)), (AV.int .i64 ((b : Nat) : Int)), (AV.func f xs)]) (ih_at mid ((mid + p) - i) b n g l (by first | (exfalso; omega) | ((first | rw [if_pos ow] at e1 | rw [if_neg ow] at e1); (first | rw [if_pos ow] at e2 | rw [if_neg ow] at e2); rw [e1, e2]; exact hlen2.symm)) (by first | exact hc | exact hxs | omega | (simp; omega)) (by first | exact hc | exact hxs | omega | (simp; omega)) (by first | exact hc | exact hxs | omega | (simp; omega)) (by first | exact hc | exact hxs | omega | (simp; omega)) (by first | exact hc | exact hxs | omega | (simp; omega)) (by first | (exfalso; omega) | ((first | rw [if_pos ow] at e1 | rw [if_neg ow] at e1); (first | rw [if_pos ow] at e2 | rw [if_neg ow] at e2); rw [e1, e2]; rw [show A ++ (mg (ltF cmp) L1 R1 ++ (L2 ++ (R2 ++ B))) = (A ++ mg (ltF cmp) L1 R1) ++ (L2 ++ (R2 ++ B)) by simp, piece (A ++ mg (ltF cmp) L1 R1) L2 _ (by simp [mg_len]; omega) ow]; exact q2)) (by first | (exfalso; omega) | ((first | rw [if_pos ow] at e1 | rw [if_neg ow] at e1); (first | rw [if_pos ow] at e2 | rw [if_neg ow] at e2); rw [e1, e2]; rw [show A ++ (mg (ltF cmp) L1 R1 ++ (L2 ++ (R2 ++ B))) = ((A ++ mg (ltF cmp) L1 R1) ++ L2) ++ (R2 ++ B) by simp, piece ((A ++ mg (ltF cmp) L1 R1) ++ L2) R2 _ (by simp [mg_len]; omega) ow]; exact q4)) ([] : Heap)) ⟨AV.wk_refl_any _, AV.wk_refl_any _, AV.wk_refl_any _, AV.wk_refl_any _, AV.wk_refl_any _, trivial⟩) (.g (.f 1 (AV.tup []) (.e (AV.tup []) (by
        try delta Vjc_7
        first | (exfalso; omega) | ((first | rw [if_pos ow] at e1 | rw [if_neg ow] at e1); (first | rw [if_pos ow] at e2 | rw [if_neg ow] at e2); (first | rw [if_pos ow] at e3 | rw [if_neg ow] at e3); rw [e1, e2, e3])))))))) (fun h6 h6' => (.f 1 (AV.tup []) (.e (AV.tup []) (by
        try delta Vjc_7
        first | (exfalso; omega) | ((first | rw [if_pos ow] at e1 | rw [if_neg ow] at e1); (first | rw [if_pos ow] at e2 | rw [if_neg ow] at e2); (first | rw [if_pos ow] at e3 | rw [if_neg ow] at e3); rw [e1, e2, e3])))))))))) (fun h5 h5' => (.no (.no (.g (.no (.f 1 (AV.tup []) (.e (AV.tup []) (by
        try delta Vjc_7
        first | (exfalso; omega) | ((first | rw [if_pos ow] at e1 | rw [if_neg ow] at e1); (first | rw [if_pos ow] at e2 | rw [if_neg ow] at e2); (first | rw [if_pos ow] at e3 | rw [if_neg ow] at e3); rw [e1, e2, e3]))))))))))))))))) (fun h3 h3' => (.no (.no (.g (.no (.r (.two (decide (((mid : Nat) : Int) < (((mid + p) - i : Nat) : Int))) (fun h4 h4' => (.yes (.yes (.g (.two (decide ((((mid + p) - i : Nat) : Int) < ((b : Nat) : Int))) (fun h5 h5' => (.r (.ch 5 ([⟨g, 9, (List.map Card.row (mAt (ltF cmp) mid ((mid + p) - i) b l)), none⟩] : Heap) (ACalls.pre (args' := [(AV.osl 0 g 9 0 n), (AV.int .i64 ((mid : Nat) : Int)), (AV.int .i64 (((mid + p) - i : Nat) : Int)), (AV.int .i64 ((b : Nat) : Int)), (AV.func f xs)]) (ih_at mid ((mid + p) - i) b n g l (by first | (exfalso; omega) | ((first | rw [if_pos ow] at e1 | rw [if_neg ow] at e1); (first | rw [if_pos ow] at e2 | rw [if_neg ow] at e2); rw [e1, e2]; exact hlen2.symm)) (by first | exact hc | exact hxs | omega | (simp; omega)) (by first | exact hc | exact hxs | omega | (simp; omega)) (by first | exact hc | exact hxs | omega | (simp; omega)) (by first | exact hc | exact hxs | omega | (simp; omega)) (by first | exact hc | exact hxs | omega | (simp; omega)) (by first | (exfalso; omega) | ((first | rw [if_pos ow] at e1 | rw [if_neg ow] at e1); (first | rw [if_pos ow] at e2 | rw [if_neg ow] at e2); rw [e1, e2]; rw [show A ++ (mg (ltF cmp) L1 R1 ++ (L2 ++ (R2 ++ B))) = (A ++ mg (ltF cmp) L1 R1) ++ (L2 ++ (R2 ++ B)) by simp, piece (A ++ mg (ltF cmp) L1 R1) L2 _ (by simp [mg_len]; omega) ow]; exact q2)) (by first | (exfalso; omega) | ((first | rw [if_pos ow] at e1 | rw [if_neg ow] at e1); (first | rw [if_pos ow] at e2 | rw [if_neg ow] at e2); rw [e1, e2]; rw [show A ++ (mg (ltF cmp) L1 R1 ++ (L2 ++ (R2 ++ B))) = ((A ++ mg (ltF cmp) L1 R1) ++ L2) ++ (R2 ++ B) by simp, piece ((A ++ mg (ltF cmp) L1 R1) ++ L2) R2 _ (by simp [mg_len]; omega) ow]; exact q4)) ([] : Heap)) ⟨AV.wk_refl_any _, AV.wk_refl_any _, AV.wk_refl_any _, AV.wk_refl_any _, AV.wk_refl_any _, trivial⟩) (.g (.f 1 (AV.tup []) (.e (AV.tup []) (by
        try delta Vjc_7
        first | (exfalso; omega) | ((first | rw [if_pos ow] at e1 | rw [if_neg ow] at e1); (first | rw [if_pos ow] at e2 | rw [if_neg ow] at e2); (first | rw [if_pos ow] at e3 | rw [if_neg ow] at e3); rw [e1, e2, e3])))))))) (fun h5 h5' => (.f 1 (AV.tup []) (.e (AV.tup []) (by
        try delta Vjc_7
        first | (exfalso; omega) | ((first | rw [if_pos ow] at e1 | rw [if_neg ow] at e1); (first | rw [if_pos ow] at e2 | rw [if_neg ow] at e2); (first | rw [if_pos ow] at e3 | rw [if_neg ow] at e3); rw [e1, e2, e3])))))))))) (fun h4 h4' => (.no (.no (.g (.no (.f 1 (AV.tup []) (.e (AV.tup []) (by
        try delta Vjc_7
        first | (exfalso; omega) | ((first | rw [if_pos ow] at e1 | rw [if_neg ow] at e1); (first | rw [if_pos ow] at e2 | rw [if_neg ow] at e2); (first | rw [if_pos ow] at e3 | rw [if_neg ow] at e3); rw [e1, e2, e3])))))))))))))))))))))))) (fun h1 h1' => (.no (.no (.g (.no (.r (.two (decide (((a : Nat) : Int) < ((i : Nat) : Int))) (fun h2 h2' => (.yes (.yes (.g (.two (decide (((i : Nat) : Int) < ((mid : Nat) : Int))) (fun h3 h3' => (.r (.ch 5 ([⟨g, 9, (List.map Card.row (mAt (ltF cmp) a i mid l)), none⟩] : Heap) (ih_at a i mid n g l (by first | (exfalso; omega) | ((first | rw [if_pos ow] at e1 | rw [if_neg ow] at e1); rw [e1]; exact hlen1.symm)) (by first | exact hc | exact hxs | omega | (simp; omega)) (by first | exact hc | exact hxs | omega | (simp; omega)) (by first | exact hc | exact hxs | omega | (simp; omega)) (by first | exact hc | exact hxs | omega | (simp; omega)) (by first | exact hc | exact hxs | omega | (simp; omega)) (by first | (exfalso; omega) | ((first | rw [if_pos ow] at e1 | rw [if_neg ow] at e1); rw [e1]; rw [piece A L1 _ hA ow]; exact q1)) (by first | (exfalso; omega) | ((first | rw [if_pos ow] at e1 | rw [if_neg ow] at e1); rw [e1]; rw [show A ++ (L1 ++ (R1 ++ (L2 ++ (R2 ++ B)))) = (A ++ L1) ++ (R1 ++ (L2 ++ (R2 ++ B))) by simp, piece (A ++ L1) R1 _ (by simp; omega) ow]; exact q3)) ([] : Heap)) (.g (.r (.two (decide (((mid : Nat) : Int) < (((mid + p) - i : Nat) : Int))) (fun h4 h4' => (.yes (.yes (.g (.two (decide ((((mid + p) - i : Nat) : Int) < ((b : Nat) : Int))) (fun h5 h5' => (.r (.ch 5 ([⟨g, 9, (List.map Card.row (mAt (ltF cmp) mid ((mid + p) - i) b (mAt (ltF cmp) a i mid l))), none⟩] : Heap) (ACalls.pre (args' := [(AV.osl 0 g 9 0 n), (AV.int .i64 ((mid : Nat) : Int)), (AV.int .i64 (((mid + p) - i : Nat) : Int)), (AV.int .i64 ((b : Nat) : Int)), (AV.func f xs)]) (ih_at mid ((mid + p) - i) b n g (mAt (ltF cmp) a i mid l) (by first | (exfalso; omega) | ((first | rw [if_pos ow] at e1 | rw [if_neg ow] at e1); (first | rw [if_pos ow] at e2 | rw [if_neg ow] at e2); rw [e1, e2]; exact hlen2.symm)) (by first | exact hc | exact hxs | omega | (simp; omega)) (by first | exact hc | exact hxs | omega | (simp; omega)) (by first | exact hc | exact hxs | omega | (simp; omega)) (by first | exact hc | exact hxs | omega | (simp; omega)) (by first | exact hc | exact hxs | omega | (simp; omega)) (by first | (exfalso; omega) | ((first | rw [if_pos ow] at e1 | rw [if_neg ow] at e1); (first | rw [if_pos ow] at e2 | rw [if_neg ow] at e2); rw [e1, e2]; rw [show A ++ (mg (ltF cmp) L1 R1 ++ (L2 ++ (R2 ++ B))) = (A ++ mg (ltF cmp) L1 R1) ++ (L2 ++ (R2 ++ B)) by simp, piece (A ++ mg (ltF cmp) L1 R1) L2 _ (by simp [mg_len]; omega) ow]; exact q2)) (by first | (exfalso; omega) | ((first | rw [if_pos ow] at e1 | rw [if_neg ow] at e1); (first | rw [if_pos ow] at e2 | rw [if_neg ow] at e2); rw [e1, e2]; rw [show A ++ (mg (ltF cmp) L1 R1 ++ (L2 ++ (R2 ++ B))) = ((A ++ mg (ltF cmp) L1 R1) ++ L2) ++ (R2 ++ B) by simp, piece ((A ++ mg (ltF cmp) L1 R1) ++ L2) R2 _ (by simp [mg_len]; omega) ow]; exact q4)) ([] : Heap)) ⟨AV.wk_refl_any _, AV.wk_refl_any _, AV.wk_refl_any _, AV.wk_refl_any _, AV.wk_refl_any _, trivial⟩) (.g (.f 1 (AV.tup []) (.e (AV.tup []) (by
        try delta Vjc_7
        first | (exfalso; omega) | ((first | rw [if_pos ow] at e1 | rw [if_neg ow] at e1); (first | rw [if_pos ow] at e2 | rw [if_neg ow] at e2); (first | rw [if_pos ow] at e3 | rw [if_neg ow] at e3); rw [e1, e2, e3])))))))) (fun h5 h5' => (.f 1 (AV.tup []) (.e (AV.tup []) (by
        try delta Vjc_7
        first | (exfalso; omega) | ((first | rw [if_pos ow] at e1 | rw [if_neg ow] at e1); (first | rw [if_pos ow] at e2 | rw [if_neg ow] at e2); (first | rw [if_pos ow] at e3 | rw [if_neg ow] at e3); rw [e1, e2, e3])))))))))) (fun h4 h4' => (.no (.no (.g (.no (.f 1 (AV.tup []) (.e (AV.tup []) (by
        try delta Vjc_7
        first | (exfalso; omega) | ((first | rw [if_pos ow] at e1 | rw [if_neg ow] at e1); (first | rw [if_pos ow] at e2 | rw [if_neg ow] at e2); (first | rw [if_pos ow] at e3 | rw [if_neg ow] at e3); rw [e1, e2, e3]))))))))))))))) (fun h3 h3' => (.r (.two (decide (((mid : Nat) : Int) < (((mid + p) - i : Nat) : Int))) (fun h4 h4' => (.yes (.yes (.g (.two (decide ((((mid + p) - i : Nat) : Int) < ((b : Nat) : Int))) (fun h5 h5' => (.r (.ch 5 ([⟨g, 9, (List.map Card.row (mAt (ltF cmp) mid ((mid + p) - i) b l)), none⟩] : Heap) (ACalls.pre (args' := [(AV.osl 0 g 9 0 n), (AV.int .i64 ((mid : Nat) : Int)), (AV.int .i64 (((mid + p) - i : Nat) : Int)), (AV.int .i64 ((b : Nat) : Int)), (AV.func f xs)]) (ih_at mid ((mid + p) - i) b n g l (by first | (exfalso; omega) | ((first | rw [if_pos ow] at e1 | rw [if_neg ow] at e1); (first | rw [if_pos ow] at e2 | rw [if_neg ow] at e2); rw [e1, e2]; exact hlen2.symm)) (by first | exact hc | exact hxs | omega | (simp; omega)) (by first | exact hc | exact hxs | omega | (simp; omega)) (by first | exact hc | exact hxs | omega | (simp; omega)) (by first | exact hc | exact hxs | omega | (simp; omega)) (by first | exact hc | exact hxs | omega | (simp; omega)) (by first | (exfalso; omega) | ((first | rw [if_pos ow] at e1 | rw [if_neg ow] at e1); (first | rw [if_pos ow] at e2 | rw [if_neg ow] at e2); rw [e1, e2]; rw [show A ++ (mg (ltF cmp) L1 R1 ++ (L2 ++ (R2 ++ B))) = (A ++ mg (ltF cmp) L1 R1) ++ (L2 ++ (R2 ++ B)) by simp, piece (A ++ mg (ltF cmp) L1 R1) L2 _ (by simp [mg_len]; omega) ow]; exact q2)) (by first | (exfalso; omega) | ((first | rw [if_pos ow] at e1 | rw [if_neg ow] at e1); (first | rw [if_pos ow] at e2 | rw [if_neg ow] at e2); rw [e1, e2]; rw [show A ++ (mg (ltF cmp) L1 R1 ++ (L2 ++ (R2 ++ B))) = ((A ++ mg (ltF cmp) L1 R1) ++ L2) ++ (R2 ++ B) by simp, piece ((A ++ mg (ltF cmp) L1 R1) ++ L2) R2 _ (by simp [mg_len]; omega) ow]; exact q4)) ([] : Heap)) ⟨AV.wk_refl_any _, AV.wk_refl_any _, AV.wk_refl_any _, AV.wk_refl_any _, AV.wk_refl_any _, trivial⟩) (.g (.f 1 (AV.tup []) (.e (AV.tup []) (by
        try delta Vjc_7
        first | (exfalso; omega) | ((first | rw [if_pos ow] at e1 | rw [if_neg ow] at e1); (first | rw [if_pos ow] at e2 | rw [if_neg ow] at e2); (first | rw [if_pos ow] at e3 | rw [if_neg ow] at e3); rw [e1, e2, e3])))))))) (fun h5 h5' => (.f 1 (AV.tup []) (.e (AV.tup []) (by
        try delta Vjc_7
        first | (exfalso; omega) | ((first | rw [if_pos ow] at e1 | rw [if_neg ow] at e1); (first | rw [if_pos ow] at e2 | rw [if_neg ow] at e2); (first | rw [if_pos ow] at e3 | rw [if_neg ow] at e3); rw [e1, e2, e3])))))))))) (fun h4 h4' => (.no (.no (.g (.no (.f 1 (AV.tup []) (.e (AV.tup []) (by
        try delta Vjc_7
        first | (exfalso; omega) | ((first | rw [if_pos ow] at e1 | rw [if_neg ow] at e1); (first | rw [if_pos ow] at e2 | rw [if_neg ow] at e2); (first | rw [if_pos ow] at e3 | rw [if_neg ow] at e3); rw [e1, e2, e3]))))))))))))))))) (fun h2 h2' => (.no (.no (.g (.no (.r (.two (decide (((mid : Nat) : Int) < (((mid + p) - i : Nat) : Int))) (fun h3 h3' => (.yes (.yes (.g (.two (decide ((((mid + p) - i : Nat) : Int) < ((b : Nat) : Int))) (fun h4 h4' => (.r (.ch 5 ([⟨g, 9, (List.map Card.row (mAt (ltF cmp) mid ((mid + p) - i) b l)), none⟩] : Heap) (ACalls.pre (args' := [(AV.osl 0 g 9 0 n), (AV.int .i64 ((mid : Nat) : Int)), (AV.int .i64 (((mid + p) - i : Nat) : Int)), (AV.int .i64 ((b : Nat) : Int)), (AV.func f xs)]) (ih_at mid ((mid + p) - i) b n g l (by first | (exfalso; omega) | ((first | rw [if_pos ow] at e1 | rw [if_neg ow] at e1); (first | rw [if_pos ow] at e2 | rw [if_neg ow] at e2); rw [e1, e2]; exact hlen2.symm)) (by first | exact hc | exact hxs | omega | (simp; omega)) (by first | exact hc | exact hxs | omega | (simp; omega)) (by first | exact hc | exact hxs | omega | (simp; omega)) (by first | exact hc | exact hxs | omega | (simp; omega)) (by first | exact hc | exact hxs | omega | (simp; omega)) (by first | (exfalso; omega) | ((first | rw [if_pos ow] at e1 | rw [if_neg ow] at e1); (first | rw [if_pos ow] at e2 | rw [if_neg ow] at e2); rw [e1, e2]; rw [show A ++ (mg (ltF cmp) L1 R1 ++ (L2 ++ (R2 ++ B))) = (A ++ mg (ltF cmp) L1 R1) ++ (L2 ++ (R2 ++ B)) by simp, piece (A ++ mg (ltF cmp) L1 R1) L2 _ (by simp [mg_len]; omega) ow]; exact q2)) (by first | (exfalso; omega) | ((first | rw [if_pos ow] at e1 | rw [if_neg ow] at e1); (first | rw [if_pos ow] at e2 | rw [if_neg ow] at e2); rw [e1, e2]; rw [show A ++ (mg (ltF cmp) L1 R1 ++ (L2 ++ (R2 ++ B))) = ((A ++ mg (ltF cmp) L1 R1) ++ L2) ++ (R2 ++ B) by simp, piece ((A ++ mg (ltF cmp) L1 R1) ++ L2) R2 _ (by simp [mg_len]; omega) ow]; exact q4)) ([] : Heap)) ⟨AV.wk_refl_any _, AV.wk_refl_any _, AV.wk_refl_any _, AV.wk_refl_any _, AV.wk_refl_any _, trivial⟩) (.g (.f 1 (AV.tup []) (.e (AV.tup []) (by
        try delta Vjc_7
        first | (exfalso; omega) | ((first | rw [if_pos ow] at e1 | rw [if_neg ow] at e1); (first | rw [if_pos ow] at e2 | rw [if_neg ow] at e2); (first | rw [if_pos ow] at e3 | rw [if_neg ow] at e3); rw [e1, e2, e3])))))))) (fun h4 h4' => (.f 1 (AV.tup []) (.e (AV.tup []) (by
        try delta Vjc_7
        first | (exfalso; omega) | ((first | rw [if_pos ow] at e1 | rw [if_neg ow] at e1); (first | rw [if_pos ow] at e2 | rw [if_neg ow] at e2); (first | rw [if_pos ow] at e3 | rw [if_neg ow] at e3); rw [e1, e2, e3])))))))))) (fun h3 h3' => (.no (.no (.g (.no (.f 1 (AV.tup []) (.e (AV.tup []) (by
        try delta Vjc_7
        first | (exfalso; omega) | ((first | rw [if_pos ow] at e1 | rw [if_neg ow] at e1); (first | rw [if_pos ow] at e2 | rw [if_neg ow] at e2); (first | rw [if_pos ow] at e3 | rw [if_neg ow] at e3); rw [e1, e2, e3])))))))))))))))))))))))))))))))))))))))))))))))))))))))))))
end Go.Proofs.Ytcmfnfkahdconaa.AM

set_option linter.unusedVariables false
set_option linter.unusedSimpArgs false
set_option linter.unusedSectionVars false
namespace Go.Proofs.Ytcmfnfkahdconaa.AM
open Go
section
variable {α : Type} [Inhabited α] {lt : α → α → Bool}
theorem Weak.irr (W : Weak lt) (a : α) : lt a a = false := by
  cases h : lt a a with
  | false => rfl
  | true => have := W.asymm a a h; rw [h] at this; exact this
theorem four {l : List α} {a m b : Nat} (ham : a ≤ m) (hmb : m ≤ b) : l = l.take a ++ ((l.drop a).take (m - a) ++ ((l.drop m).take (b - m) ++ l.drop b)) := by
  have h1 : (l.drop m).take (b - m) ++ l.drop b = l.drop m := by
    have := List.take_append_drop (b - m) (l.drop m)
    rw [List.drop_drop, show m + (b - m) = b by omega] at this
    exact this
  have h2 : (l.drop a).take (m - a) ++ l.drop m = l.drop a := by
    have := List.take_append_drop (m - a) (l.drop a)
    rw [List.drop_drop, show a + (m - a) = m by omega] at this
    exact this
  rw [h1, h2, List.take_append_drop]
theorem part_nth {l : List α} {a k i : Nat} (hi : i < k) : nth ((l.drop a).take k) i = nth l (a + i) := by rw [nth_take hi, nth_drop]
theorem part_len {l : List α} {a k : Nat} (h : a + k ≤ l.length) : ((l.drop a).take k).length = k := by simp; omega
theorem part_mem {l : List α} {a k : Nat} {x : α} (h : a + k ≤ l.length) (hx : x ∈ (l.drop a).take k) : ∃ i, a ≤ i ∧ i < a + k ∧ nth l i = x := by
  obtain ⟨i, hi, rfl⟩ := mem_nth hx
  rw [part_len h] at hi
  exact ⟨a + i, by omega, by omega, (part_nth hi).symm⟩
theorem srt_at {l : List α} {a k : Nat} (W : Weak lt) (h : a + k ≤ l.length) (hs : Srt lt ((l.drop a).take k)) {i j : Nat} (h1 : a ≤ i) (h2 : i ≤ j) (h3 : j < a + k) : lt (nth l j) (nth l i) = false := by
  rcases Nat.lt_or_ge i j with h4 | h4
  · have := pw_nth.1 hs (i - a) (j - a) (by omega) (by rw [part_len h]; omega)
    rw [part_nth (by omega), part_nth (by omega)] at this
    rwa [show a + (i - a) = i by omega, show a + (j - a) = j by omega] at this
  · obtain rfl : i = j := by omega
    exact W.irr _
theorem part_cut {l : List α} {a k s : Nat} (hs : s ≤ k) : (l.drop a).take k = (l.drop a).take s ++ (l.drop (a + s)).take (k - s) := by
  have := List.take_append_drop s ((l.drop a).take k)
  rw [List.take_take, Nat.min_eq_left hs, List.drop_take, List.drop_drop] at this
  exact this.symm
theorem srt_cut {l : List α} {a k s : Nat} (hs : s ≤ k) (h : Srt lt ((l.drop a).take k)) : Srt lt ((l.drop a).take s) ∧ Srt lt ((l.drop (a + s)).take (k - s)) := by
  rw [part_cut hs] at h
  have := List.pairwise_append.1 h
  exact ⟨this.1, this.2.1⟩
theorem le_lt_le (W : Weak lt) {x y u v : α} (h1 : lt u y = false) (h2 : lt u v = true) (h3 : lt x v = false) : lt y x = true := by
  cases h : lt y x with
  | true => rfl
  | false =>
    have h4 := W.trans v x y h3 h
    have h5 := W.trans v y u h4 h1
    rw [h2] at h5; simp at h5
theorem part_law (W : Weak lt) {l : List α} {a p b s e : Nat} (ham : a ≤ p) (hpb : p ≤ b) (hbl : b ≤ l.length) (h7 : Srt lt ((l.drop a).take (p - a))) (h8 : Srt lt ((l.drop p).take (b - p))) (has : a ≤ s) (hsp : s ≤ p) (hpe : p ≤ e) (heb : e ≤ b)
    (k1 : s < p → p < e → lt (nth l (e - 1)) (nth l s) = true) (k2 : a < s → e < b → lt (nth l e) (nth l (s - 1)) = false) :
    mAt lt a p b l = l.take a ++ (mg lt ((l.drop a).take (s - a)) ((l.drop p).take (e - p)) ++ (mg lt ((l.drop s).take (p - s)) ((l.drop e).take (b - e)) ++ l.drop b)) := by
  unfold mAt
  have c1 := part_cut (l := l) (a := a) (k := p - a) (s := s - a) (by omega)
  have c2 := part_cut (l := l) (a := p) (k := b - p) (s := e - p) (by omega)
  rw [show a + (s - a) = s by omega, show p - a - (s - a) = p - s by omega] at c1
  rw [show p + (e - p) = e by omega, show b - p - (e - p) = b - e by omega] at c2
  rw [c1, c2, mg_split lt _ _ _ (Nat.le_refl _) (fun x hx y hy => ?_) (fun x hx y hy => ?_), List.append_assoc]
  · obtain ⟨i, i1, i2, rfl⟩ := part_mem (by omega) hx
    obtain ⟨j, j1, j2, rfl⟩ := part_mem (by omega) hy
    exact le_lt_le W (srt_at W (by omega) h8 (i := j) (j := e - 1) (by omega) (by omega) (by omega)) (k1 (by omega) (by omega)) (srt_at W (by omega) h7 (i := s) (j := i) (by omega) (by omega) (by omega))
  · obtain ⟨i, i1, i2, rfl⟩ := part_mem (by omega) hx
    obtain ⟨j, j1, j2, rfl⟩ := part_mem (by omega) hy
    have q1 := srt_at W (by omega) h7 (i := i) (j := s - 1) (by omega) (by omega) (by omega)
    have q2 := srt_at W (by omega) h8 (i := e) (j := j) (by omega) (by omega) (by omega)
    exact W.trans _ _ _ (W.trans _ _ _ q1 (k2 (by omega) (by omega))) q2
theorem mg_one_l {x : α} {R : List α} (h : ∀ y, R.head? = some y → lt y x = false) : mg lt [x] R = x :: R := by
  cases R with
  | nil => rw [mg_nil_r]
  | cons y R => rw [mg_cons, if_neg (by rw [h y rfl]; simp), mg_nil_l]
theorem mg_one_r {y : α} {L : List α} (h : ∀ x, L.head? = some x → lt y x = true) : mg lt L [y] = y :: L := by
  cases L with
  | nil => rw [mg_nil_l]
  | cons x L => rw [mg_cons, if_pos (h x rfl), mg_nil_r]
theorem one_part {l : List α} {a : Nat} (h : a < l.length) : (l.drop a).take 1 = [nth l a] := by rw [drop_nth h]; rfl
theorem head_part {l : List α} {a k : Nat} {x : α} (h : ((l.drop a).take k).head? = some x) (hl : a + k ≤ l.length) : 0 < k ∧ x = nth l a := by
  cases k with
  | zero => simp at h
  | succ k =>
    rw [drop_nth (by omega)] at h
    simp at h
    exact ⟨by omega, h.symm⟩
theorem mg_insG (W : Weak lt) {S T : List α} (hS : Srt lt S) (hT : Srt lt T) (y : α) : mg lt S (insG lt T y) = insG lt (mg lt S T) y := by
  have fS : S = S.filter (fun z => !lt y z) ++ S.filter (fun z => lt y z) := by
    clear hT
    induction S with
    | nil => rfl
    | cons z S ih =>
      have h := List.pairwise_cons.1 hS
      have ih' := ih h.2
      by_cases c : lt y z = true
      · have hall : ∀ w ∈ S, lt y w = true := fun w hw => le_lt_le W (W.irr y) c (h.1 w hw)
        have e1 : S.filter (fun z => !lt y z) = [] := List.filter_eq_nil_iff.2 fun w hw => by simp [hall w hw]
        have e2 : S.filter (fun z => lt y z) = S := List.filter_eq_self.2 fun w hw => hall w hw
        simp [List.filter_cons, c, e1, e2]
      · simp only [Bool.not_eq_true] at c
        conv => lhs; rw [ih']
        simp [List.filter_cons, c]
  have fT : T = T.filter (fun z => !lt y z) ++ T.filter (fun z => lt y z) := by
    clear hS fS
    induction T with
    | nil => rfl
    | cons z T ih =>
      have h := List.pairwise_cons.1 hT
      have ih' := ih h.2
      by_cases c : lt y z = true
      · have hall : ∀ w ∈ T, lt y w = true := fun w hw => le_lt_le W (W.irr y) c (h.1 w hw)
        have e1 : T.filter (fun z => !lt y z) = [] := List.filter_eq_nil_iff.2 fun w hw => by simp [hall w hw]
        have e2 : T.filter (fun z => lt y z) = T := List.filter_eq_self.2 fun w hw => hall w hw
        simp [List.filter_cons, c, e1, e2]
      · simp only [Bool.not_eq_true] at c
        conv => lhs; rw [ih']
        simp [List.filter_cons, c]
  have m1 : ∀ z ∈ S.filter (fun z => !lt y z), lt y z = false := fun z hz => by simpa using (List.mem_filter.1 hz).2
  have m2 : ∀ z ∈ S.filter (fun z => lt y z), lt y z = true := fun z hz => (List.mem_filter.1 hz).2
  have m3 : ∀ z ∈ T.filter (fun z => !lt y z), lt y z = false := fun z hz => by simpa using (List.mem_filter.1 hz).2
  have m4 : ∀ z ∈ T.filter (fun z => lt y z), lt y z = true := fun z hz => (List.mem_filter.1 hz).2
  rw [insG_split W hT y]
  generalize hS1 : S.filter (fun z => !lt y z) = S1 at fS m1
  generalize hS2 : S.filter (fun z => lt y z) = S2 at fS m2
  generalize hT1 : T.filter (fun z => !lt y z) = T1 at fT m3
  generalize hT2 : T.filter (fun z => lt y z) = T2 at fT m4
  have cross : ∀ x ∈ S2, ∀ z ∈ T1, lt z x = true := fun x hx z hz => by
    cases h : lt z x with
    | true => rfl
    | false => have := W.trans x z y h (m3 z hz); rw [m2 x hx] at this; simp at this
  have cross2 : ∀ x ∈ S1, ∀ z ∈ T2, lt z x = false := fun x hx z hz => by
    have h1 := W.asymm _ _ (m4 z hz)
    exact W.trans x y z (m1 x hx) h1
  have e1 : mg lt S T = mg lt S1 T1 ++ mg lt S2 T2 := by
    rw [fS, fT]; exact mg_split lt _ _ _ (Nat.le_refl _) cross cross2
  have e2 : mg lt S (T1 ++ y :: T2) = mg lt S1 T1 ++ mg lt S2 (y :: T2) := by
    rw [fS]; exact mg_split lt _ _ _ (Nat.le_refl _) cross fun x hx z hz => by
      rcases List.mem_cons.1 hz with rfl | hz
      · exact m1 x hx
      · exact cross2 x hx z hz
  have e3 : mg lt S2 (y :: T2) = y :: mg lt S2 T2 := by
    cases S2 with
    | nil => rw [mg_nil_l, mg_nil_l]
    | cons x S2 => rw [mg_cons, if_pos (m2 x (by simp))]
  have p1 : ∀ z ∈ mg lt S1 T1, lt y z = false := fun z hz => by
    have := (mg_perm lt _ S1 T1 (Nat.le_refl _)).mem_iff.1 hz
    rcases List.mem_append.1 this with h | h
    · exact m1 z h
    · exact m3 z h
  have p2 : ∀ z ∈ mg lt S2 T2, lt y z = true := fun z hz => by
    have := (mg_perm lt _ S2 T2 (Nat.le_refl _)).mem_iff.1 hz
    rcases List.mem_append.1 this with h | h
    · exact m2 z h
    · exact m4 z h
  have ins : ∀ (P Q : List α), (∀ z ∈ P, lt y z = false) → (∀ z ∈ Q, lt y z = true) → insG lt (P ++ Q) y = P ++ y :: Q := fun P Q hP hQ => by
    have hpos : posG lt y (P ++ Q) (P ++ Q).length = P.length := by
      obtain ⟨s1, s2⟩ := posG_spec lt y (P ++ Q) (P ++ Q).length
      have s3 := posG_le lt y (P ++ Q) (P ++ Q).length
      have hlen : (P ++ Q).length = P.length + Q.length := List.length_append
      rcases Nat.lt_trichotomy (posG lt y (P ++ Q) (P ++ Q).length) P.length with h | h | h
      · have := s1 _ (Nat.le_refl _) (by omega)
        rw [nth_appM, if_pos h] at this
        rw [hP _ (nth_mem h)] at this; simp at this
      · exact h
      · have := s2 (by omega)
        rw [nth_appM, if_neg (by omega)] at this
        rw [hQ _ (nth_mem (by omega))] at this; simp at this
    unfold insG
    rw [hpos]
    simp
  rw [e2, e3, e1, ins _ _ p1 p2]
theorem sortG_app (W : Weak lt) (Y : List α) : ∀ (X : List α), sortG lt (X ++ Y) = mg lt (sortG lt X) (sortG lt Y) := by
  intro X
  have key : ∀ (Z T : List α), Srt lt T → mg lt (sortG lt X) (Z.foldl (insG lt) T) = Z.foldl (insG lt) (mg lt (sortG lt X) T) := by
    intro Z
    induction Z with
    | nil => intro T _; rfl
    | cons z Z ih =>
      intro T hT
      simp only [List.foldl_cons]
      rw [ih _ (insG_sorted W hT z), mg_insG W (sortG_sorted W X) hT]
  have := key Y [] List.Pairwise.nil
  rw [mg_nil_r] at this
  have e : sortG lt (X ++ Y) = Y.foldl (insG lt) (sortG lt X) := by unfold sortG; rw [List.foldl_append]
  rw [e, ← this]
  rfl
end
end Go.Proofs.Ytcmfnfkahdconaa.AM

set_option maxRecDepth 100000
set_option linter.unusedVariables false
set_option linter.unusedSimpArgs false
namespace Go.Proofs.Ytcmfnfkahdconaa.AM
open Go Go.Proofs.Ytcmfnfkahdconaa
attribute [local irreducible] ACalls funT codeT codeQ LoopTo
attribute [local irreducible] Tp.card Tp.cardT Tp.next Tp.step Tp.cards Tp.cardsT Tp.key Tp.keyT sink insSort sortK insK posK beforeK sortP cmpK
attribute [local irreducible] swapL rotS rotL bsr mgL mg shU shD
theorem sC_all (cmp : Card → Card → Int) (f : Nat) (xs : List AV) (hc : ∀ (x y : Card) (H : Heap), ACalls Try.prog f ([AV.agg (Card.row x), AV.agg (Card.row y)] ++ xs) H (AV.int .i64 (cmp x y), H)) (hxs : AV.bdds 1 xs = true) (W : Weak (ltF cmp)) (Nz : Nat) : ∀ (a p b n g : Nat) (l : List Card), n = l.length → n < 1048576 → a < p → p < b → b ≤ n → b - a < Nz →
    Srt (ltF cmp) ((l.drop a).take (p - a)) → Srt (ltF cmp) ((l.drop p).take (b - p)) → ACalls Try.prog 157 [(AV.osl 0 g 9 0 n), (AV.int .i64 ((a : Nat) : Int)), (AV.int .i64 ((p : Nat) : Int)), (AV.int .i64 ((b : Nat) : Int)), (AV.func f xs)] ([⟨g, 9, (List.map Card.row l), none⟩] : Heap) (.tup [], ([⟨g, 9, (List.map Card.row (mAt (ltF cmp) a p b l)), none⟩] : Heap)) := by
  induction Nz with
  | zero => intro a p b n g l _ _ _ _ _ h; omega
  | succ Nz ih =>
    intro a p b n g l hn hnb hap hpb hbn hN h7 h8
    by_cases c1 : p = a + 1
    · obtain ⟨s1, s2, s3, s4⟩ := bsr_spec (fun c => decide (cmp (nth l c) (nth l a) < 0)) (b - p) p b (Nat.le_refl _) ow
      generalize hs : bsr (fun c => decide (cmp (nth l c) (nth l a) < 0)) (b - p) p b = s at s1 s2 s3 s4
      have hlaw := part_law W (l := l) (a := a) (p := p) (b := b) (s := a) (e := s) ow ow ow h7 h8 ow ow s1 s2 (fun _ h => s3 h) (fun h => by omega)
      have hx : (l.drop a).take (p - a) = [nth l a] := by rw [show p - a = 1 by omega]; exact one_part ow
      rw [Nat.sub_self, List.take_zero, mg_nil_l, hx, mg_one_l (fun y hy => by
        obtain ⟨q1, q2⟩ := head_part hy ow
        rw [q2]; exact s4 ow)] at hlaw
      rw [hlaw]
      have hl := four (l := l) (a := a) (m := p) (b := b) ow ow
      rw [hx, part_cut (l := l) (a := p) (k := b - p) (s := s - p) ow, show p + (s - p) = s by omega, show b - p - (s - p) = b - s by omega, List.append_assoc] at hl
      exact sCA_spec cmp f xs (l.take a) ((l.drop p).take (s - p)) ((l.drop s).take (b - s)) (l.drop b) (nth l a) a p b n g s l hc hxs hn hnb hl (by simp; omega) c1 ow hbn (by rw [part_len ow]; omega) s2 hs.symm
    by_cases c2 : b = p + 1
    · obtain ⟨s1, s2, s3, s4⟩ := bsr_spec (fun c => !decide (cmp (nth l p) (nth l c) < 0)) (p - a) a p (Nat.le_refl _) ow
      generalize hs : bsr (fun c => !decide (cmp (nth l p) (nth l c) < 0)) (p - a) a p = s at s1 s2 s3 s4
      have hlaw := part_law W (l := l) (a := a) (p := p) (b := b) (s := s) (e := p) ow ow ow h7 h8 s1 s2 ow ow (fun _ h => by omega) (fun h _ => by have := s3 h; simp only [Bool.not_eq_true'] at this; exact this)
      have hx : (l.drop p).take (b - p) = [nth l p] := by rw [show b - p = 1 by omega]; exact one_part ow
      rw [Nat.sub_self, List.take_zero, mg_nil_r, hx, mg_one_r (fun y hy => by
        obtain ⟨q1, q2⟩ := head_part hy ow
        rw [q2]; simpa [ltF] using s4 ow)] at hlaw
      rw [hlaw]
      have hl := four (l := l) (a := a) (m := p) (b := b) ow ow
      rw [hx, part_cut (l := l) (a := a) (k := p - a) (s := s - a) ow, show a + (s - a) = s by omega, show p - a - (s - a) = p - s by omega, List.append_assoc] at hl
      exact sCB_spec cmp f xs (l.take a) ((l.drop a).take (s - a)) ((l.drop s).take (p - s)) (l.drop b) (nth l p) a p b n g s l hc hxs hn hnb hl (by simp; omega) (by rw [part_len ow]; omega) (by rw [part_len ow]; omega) c1 c2 hbn hs.symm
    have ih_at : ∀ (a p b n g : Nat) (l : List Card), n = l.length → n < 1048576 → a < p → p < b → b ≤ n → b - a < Nz → Srt (ltF cmp) ((l.drop a).take (p - a)) → Srt (ltF cmp) ((l.drop p).take (b - p)) → ∀ H : Heap, ACalls Try.prog 157 [(AV.osl 0 g 9 0 n), (AV.int .i64 ((a : Nat) : Int)), (AV.int .i64 ((p : Nat) : Int)), (AV.int .i64 ((b : Nat) : Int)), (AV.func f xs)] (([⟨g, 9, (List.map Card.row l), none⟩] : Heap) ++ H) (.tup [], ([⟨g, 9, (List.map Card.row (mAt (ltF cmp) a p b l)), none⟩] : Heap) ++ H) :=
      fun a p b n g l q1 q2 q3 q4 q5 q6 q7 q8 H => (ih a p b n g l q1 q2 q3 q4 q5 q6 q7 q8).ext (by simp [AV.bdds, AV.bdd, hxs]) kr ob ob kr H
    obtain ⟨mid, hmid⟩ : ∃ mid, mid = (a + b) / 2 := ⟨_, rfl⟩
    have go : ∀ lo hi, lo ≤ hi → (∀ s, lo ≤ s → s ≤ hi → a ≤ s ∧ s ≤ p ∧ p ≤ mid + p - s ∧ mid + p - s ≤ b ∧ (s < p → p < mid + p - s → s < hi) ∧ (a < s → mid + p - s < b → lo < s)) →
        (∀ s, s = bsr (fun c => !decide (cmp (nth l (mid + p - 1 - c)) (nth l c) < 0)) (hi - lo) lo hi → lo ≤ s → s ≤ hi → ∀ (L1 L2 R1 R2 : List Card), l = l.take a ++ (L1 ++ (L2 ++ (R1 ++ (R2 ++ l.drop b)))) → s = a + L1.length → p = s + L2.length → mid = s + R1.length → b = p + R1.length + R2.length → Srt (ltF cmp) L1 → Srt (ltF cmp) L2 → Srt (ltF cmp) R1 → Srt (ltF cmp) R2 →
          ACalls Try.prog 157 [(AV.osl 0 g 9 0 n), (AV.int .i64 ((a : Nat) : Int)), (AV.int .i64 ((p : Nat) : Int)), (AV.int .i64 ((b : Nat) : Int)), (AV.func f xs)] ([⟨g, 9, (List.map Card.row l), none⟩] : Heap) (.tup [], ([⟨g, 9, (List.map Card.row (l.take a ++ (mg (ltF cmp) L1 R1 ++ (mg (ltF cmp) L2 R2 ++ l.drop b)))), none⟩] : Heap))) →
        ACalls Try.prog 157 [(AV.osl 0 g 9 0 n), (AV.int .i64 ((a : Nat) : Int)), (AV.int .i64 ((p : Nat) : Int)), (AV.int .i64 ((b : Nat) : Int)), (AV.func f xs)] ([⟨g, 9, (List.map Card.row l), none⟩] : Heap) (.tup [], ([⟨g, 9, (List.map Card.row (mAt (ltF cmp) a p b l)), none⟩] : Heap)) := by
      intro lo hi hlh hb walk
      obtain ⟨s1, s2, s3, s4⟩ := bsr_spec (fun c => !decide (cmp (nth l (mid + p - 1 - c)) (nth l c) < 0)) (hi - lo) lo hi (Nat.le_refl _) hlh
      generalize hs : bsr (fun c => !decide (cmp (nth l (mid + p - 1 - c)) (nth l c) < 0)) (hi - lo) lo hi = s at s1 s2 s3 s4
      obtain ⟨b1, b2, b3, b4, b5, b6⟩ := hb s s1 s2
      have hlaw := part_law W (l := l) (a := a) (p := p) (b := b) (s := s) (e := mid + p - s) ow ow ow h7 h8 b1 b2 b3 b4 (fun h1 h2 => by
          have := s4 (b5 h1 h2)
          simp only [Bool.not_eq_false'] at this
          rwa [show mid + p - 1 - s = mid + p - s - 1 by omega] at this) (fun h1 h2 => by
          have := s3 (b6 h1 h2)
          simp only [Bool.not_eq_true'] at this
          rwa [show mid + p - 1 - (s - 1) = mid + p - s by omega] at this)
      rw [hlaw]
      have hl := four (l := l) (a := a) (m := p) (b := b) ow ow
      rw [part_cut (l := l) (a := a) (k := p - a) (s := s - a) ow, show a + (s - a) = s by omega, show p - a - (s - a) = p - s by omega,
        part_cut (l := l) (a := p) (k := b - p) (s := mid + p - s - p) ow, show p + (mid + p - s - p) = mid + p - s by omega, show b - p - (mid + p - s - p) = b - (mid + p - s) by omega, List.append_assoc, List.append_assoc] at hl
      have q1 := srt_cut (l := l) (a := a) (k := p - a) (s := s - a) ow h7
      have q2 := srt_cut (l := l) (a := p) (k := b - p) (s := mid + p - s - p) ow h8
      rw [show a + (s - a) = s by omega, show p - a - (s - a) = p - s by omega] at q1
      rw [show p + (mid + p - s - p) = mid + p - s by omega, show b - p - (mid + p - s - p) = b - (mid + p - s) by omega] at q2
      exact walk s hs.symm s1 s2 _ _ _ _ hl (by rw [part_len ow]; omega) (by rw [part_len ow]; omega) (by rw [part_len ow]; omega) (by rw [part_len ow, part_len ow]; omega) q1.1 q1.2 q2.1 q2.2
    have hA : a = (l.take a).length := by simp; omega
    by_cases hgt : mid < p
    · refine go (mid + p - b) mid ow (fun s h1 h2 => ⟨by omega, by omega, by omega, by omega, fun _ _ => by omega, fun _ _ => by omega⟩) fun s hs h1 h2 L1 L2 R1 R2 hl e1 e2 e3 e4 q1 q2 q3 q4 => ?_
      exact sCC_spec cmp f xs (l.take a) L1 L2 R1 R2 (l.drop b) a p b n g s mid Nz l hc hxs hn hnb ih_at hl hA e1 e2 e3 e4 hbn hap hpb c1 c2 hmid ow hgt hs h1 h2 q1 q2 q3 q4
    · refine go a p ow (fun s h1 h2 => ⟨by omega, by omega, by omega, by omega, fun _ _ => by omega, fun _ _ => by omega⟩) fun s hs h1 h2 L1 L2 R1 R2 hl e1 e2 e3 e4 q1 q2 q3 q4 => ?_
      exact sCD_spec cmp f xs (l.take a) L1 L2 R1 R2 (l.drop b) a p b n g s mid Nz l hc hxs hn hnb ih_at hl hA e1 e2 e3 e4 hbn hap hpb c1 c2 hmid ow ow hs h1 h2 q1 q2 q3 q4
end Go.Proofs.Ytcmfnfkahdconaa.AM

set_option linter.unusedVariables false
set_option linter.unusedSimpArgs false
set_option linter.unusedSectionVars false
namespace Go.Proofs.Ytcmfnfkahdconaa.AM
open Go
section
variable {α : Type} [Inhabited α]
theorem sink_shift (cmp : α → α → Int) (X : List α) (j : Nat) : ∀ (l : List α), j < l.length → sink cmp X.length (X.length + j) (X ++ l) = X ++ sink cmp 0 j l := by
  induction j with
  | zero =>
    intro l hl
    have h1 : sink cmp X.length X.length (X ++ l) = X ++ l := by
      cases h : X.length with
      | zero => simp only [sink]
      | succ q => simp only [sink]; rw [if_neg]; simp
    simpa [sink] using h1
  | succ j ih =>
    intro l hl
    have e1 : nth (X ++ l) (X.length + j + 1) = nth l (j + 1) := by rw [nth_appM, if_neg (by omega)]; congr 1; omega
    have e2 : nth (X ++ l) (X.length + j) = nth l j := by rw [nth_appM, if_neg (by omega)]; congr 1; omega
    have L : sink cmp X.length (X.length + (j + 1)) (X ++ l) = if decide (cmp (nth (X ++ l) (X.length + j + 1)) (nth (X ++ l) (X.length + j)) < 0) = true then sink cmp X.length (X.length + j) (((X ++ l).set (X.length + j + 1) (nth (X ++ l) (X.length + j))).set (X.length + j) (nth (X ++ l) (X.length + j + 1))) else X ++ l := by
      rw [← Nat.add_assoc]; simp only [sink]; rw [if_pos (by simp; omega)]
    have R : sink cmp 0 (j + 1) l = if decide (cmp (nth l (j + 1)) (nth l j) < 0) = true then sink cmp 0 j ((l.set (j + 1) (nth l j)).set j (nth l (j + 1))) else l := by
      simp only [sink]; rw [if_pos (by simp)]
    rw [L, R, e1, e2]
    split
    · have e3 : ((X ++ l).set (X.length + j + 1) (nth l j)).set (X.length + j) (nth l (j + 1)) = X ++ (l.set (j + 1) (nth l j)).set j (nth l (j + 1)) := by
        rw [List.set_append_right _ _ (by omega), List.set_append_right _ _ (by omega)]
        congr 2
        · congr 1; omega
        · omega
      rw [e3]
      exact ih _ (by simpa using (by omega : j < l.length))
    · rfl
theorem insSort_shift (cmp : α → α → Int) (X : List α) (k : Nat) : ∀ (i : Nat) (l : List α), i + k ≤ l.length → insSort cmp X.length k (X.length + i) (X ++ l) = X ++ insSort cmp 0 k i l := by
  induction k with
  | zero => intro i l _; simp only [insSort]
  | succ k ih =>
    intro i l h
    simp only [insSort]
    rw [sink_shift cmp X i l (by omega)]
    exact ih (i + 1) _ (by rw [sink_len]; omega)
theorem insSort_mid (cmp : α → α → Int) (Y : List α) (rest : List α) : ∀ (S : List α), insSort cmp 0 rest.length S.length (S ++ (rest ++ Y)) = rest.foldl (insG fun a b => decide (cmp a b < 0)) S ++ Y := by
  induction rest with
  | nil => intro S; simp only [List.length_nil, insSort, List.nil_append, List.foldl_nil]
  | cons x rest ih =>
    intro S
    simp only [List.length_cons, insSort, List.foldl_cons]
    have h1 := sink_ins cmp S.length (S ++ (x :: rest ++ Y)) (by simp)
    have e1 : (S ++ (x :: rest ++ Y)).take S.length = S := by rw [List.take_append_of_le_length (Nat.le_refl _), List.take_length]
    have e2 : nth (S ++ (x :: rest ++ Y)) S.length = x := by rw [nth_appM, if_neg (by omega), Nat.sub_self]; rfl
    have e3 : (S ++ (x :: rest ++ Y)).drop (S.length + 1) = rest ++ Y := by
      rw [← List.drop_drop, List.drop_append_of_le_length (Nat.le_refl _), List.drop_length]; rfl
    rw [e1, e2, e3] at h1
    rw [h1]
    have := ih (insG (fun a b => decide (cmp a b < 0)) S x)
    rw [insG_len] at this
    exact this
theorem insSort_part (cmp : α → α → Int) (X M Y : List α) {a b : Nat} (ha : a = X.length) (hb : b = a + M.length) : insSort cmp a (b - (a + 1)) (a + 1) (X ++ (M ++ Y)) = X ++ (sortG (fun a b => decide (cmp a b < 0)) M ++ Y) := by
  subst ha hb
  cases M with
  | nil => rw [show X.length + ([] : List α).length - (X.length + 1) = 0 by simp]; simp only [insSort]; rfl
  | cons x M =>
    rw [show X.length + (x :: M).length - (X.length + 1) = M.length by simp; omega, insSort_shift cmp X M.length 1 (x :: M ++ Y) (by simp; omega)]
    have := insSort_mid cmp Y M [x]
    simp only [List.length_singleton, List.singleton_append] at this
    rw [show x :: M ++ Y = x :: (M ++ Y) from rfl, this]
    have e : sortG (fun a b => decide (cmp a b < 0)) (x :: M) = M.foldl (insG fun a b => decide (cmp a b < 0)) [x] := by
      unfold sortG
      rw [List.foldl_cons]
      congr 1
    rw [e]
def blk (lt : α → α → Bool) (bs : Nat) : Nat → List α → List α
  | 0, l => l
  | K + 1, l => sortG lt (l.take bs) ++ blk lt bs K (l.drop bs)
theorem sortG_len (lt : α → α → Bool) (l : List α) : (sortG lt l).length = l.length := (sortG_perm lt l).length_eq
theorem blk_nil (lt : α → α → Bool) (bs K : Nat) : blk lt bs K ([] : List α) = [] := by
  induction K with
  | zero => rfl
  | succ K ih => simp only [blk, List.take_nil, List.drop_nil]; rw [ih]; rfl
theorem blk_len (lt : α → α → Bool) (bs K : Nat) : ∀ (l : List α), (blk lt bs K l).length = l.length := by
  induction K with
  | zero => intro l; rfl
  | succ K ih => intro l; simp only [blk, List.length_append]; rw [sortG_len, ih, List.length_take, List.length_drop]; omega
theorem blk_next (lt : α → α → Bool) (bs K : Nat) : ∀ (l : List α), K * bs ≤ l.length → ∃ X, X.length = K * bs ∧ blk lt bs K l = X ++ l.drop (K * bs) ∧ ∀ (D : Nat), blk lt bs (K + D) l = X ++ blk lt bs D (l.drop (K * bs)) := by
  induction K with
  | zero => intro l h; exact ⟨[], by simp, by simp [blk], fun D => by simp⟩
  | succ K ih =>
    intro l h
    rw [Nat.succ_mul] at h
    obtain ⟨X, h1, h2, h3⟩ := ih (l.drop bs) (by simp; omega)
    refine ⟨sortG lt (l.take bs) ++ X, by rw [List.length_append, sortG_len, h1, Nat.succ_mul]; simp; omega, ?_, fun D => ?_⟩
    · simp only [blk]
      rw [h2, List.drop_drop, List.append_assoc, Nat.succ_mul, Nat.add_comm bs]
    · rw [show K + 1 + D = (K + D) + 1 by omega]
      simp only [blk]
      rw [h3, List.drop_drop, List.append_assoc, Nat.succ_mul, Nat.add_comm bs]
theorem blk_more (lt : α → α → Bool) (bs D : Nat) (K : Nat) : ∀ (l : List α), l.length ≤ K * bs → blk lt bs (K + D) l = blk lt bs K l := by
  induction K with
  | zero => intro l h; obtain rfl : l = [] := List.eq_nil_of_length_eq_zero (by omega); rw [blk_nil, blk_nil]
  | succ K ih =>
    intro l h
    rw [Nat.succ_mul] at h
    rw [show K + 1 + D = (K + D) + 1 by omega]
    simp only [blk]
    rw [ih _ (by simp; omega)]
def allB (lt : α → α → Bool) (bs : Nat) (l : List α) : List α := blk lt bs (l.length + 1) l
theorem allB_of (lt : α → α → Bool) {bs K : Nat} (hb : 0 < bs) {l : List α} (h : l.length ≤ K * bs) : blk lt bs K l = allB lt bs l := by
  unfold allB
  have h2 : l.length ≤ (l.length + 1) * bs := Nat.le_trans (Nat.le_succ _) (Nat.le_mul_of_pos_right _ hb)
  rcases Nat.le_total K (l.length + 1) with h1 | h1
  · obtain ⟨D, hD⟩ := Nat.le.dest h1
    rw [← hD, blk_more lt bs D K l h]
  · obtain ⟨D, hD⟩ := Nat.le.dest h1
    rw [← hD, blk_more lt bs D _ l h2]
theorem allB_one (lt : α → α → Bool) {bs : Nat} {l : List α} (h : l.length ≤ bs) (hb : 0 < bs) : allB lt bs l = sortG lt l := by
  rw [← allB_of lt (K := 1) hb (by omega)]
  simp only [blk]
  rw [List.take_of_length_le h, List.drop_of_length_le h, List.append_nil]
theorem allB_step (lt : α → α → Bool) {bs : Nat} (hb : 0 < bs) (l : List α) : allB lt bs l = sortG lt (l.take bs) ++ allB lt bs (l.drop bs) := by
  have h2 : ∀ q : Nat, q ≤ (q + 1) * bs := fun q => Nat.le_trans (Nat.le_succ _) (Nat.le_mul_of_pos_right _ hb)
  rw [← allB_of lt (K := (l.length + 1) + 1) hb (Nat.le_trans (h2 _) (Nat.mul_le_mul_right _ (Nat.le_succ _)))]
  have e : blk lt bs (l.length + 1 + 1) l = sortG lt (l.take bs) ++ blk lt bs (l.length + 1) (l.drop bs) := rfl
  rw [e, allB_of lt hb (Nat.le_trans (by simp) (h2 l.length))]
theorem allB_len (lt : α → α → Bool) (bs : Nat) (l : List α) : (allB lt bs l).length = l.length := blk_len lt bs _ l
def mix (lt : α → α → Bool) (bs : Nat) : Nat → List α → List α
  | 0, l => allB lt bs l
  | J + 1, l => sortG lt (l.take (2 * bs)) ++ mix lt bs J (l.drop (2 * bs))
theorem mix_next (lt : α → α → Bool) {bs : Nat} (hb : 0 < bs) (J : Nat) : ∀ (l : List α), J * (2 * bs) ≤ l.length → ∃ X, X.length = J * (2 * bs) ∧ mix lt bs J l = X ++ allB lt bs (l.drop (J * (2 * bs))) ∧ mix lt bs (J + 1) l = X ++ (sortG lt ((l.drop (J * (2 * bs))).take (2 * bs)) ++ allB lt bs ((l.drop (J * (2 * bs))).drop (2 * bs))) ∧ ∀ D, blk lt (2 * bs) (J + D) l = X ++ blk lt (2 * bs) D (l.drop (J * (2 * bs))) := by
  induction J with
  | zero => intro l h; exact ⟨[], by simp, by simp [mix], by simp [mix], fun D => by simp⟩
  | succ J ih =>
    intro l h
    rw [Nat.succ_mul] at h
    obtain ⟨X, h1, h2, h3, h4⟩ := ih (l.drop (2 * bs)) (by simp; omega)
    have hmul : (J + 1) * (2 * bs) = J * (2 * bs) + 2 * bs := Nat.succ_mul _ _
    have hd0 : (l.drop (2 * bs)).drop (J * (2 * bs)) = l.drop ((J + 1) * (2 * bs)) := by rw [List.drop_drop, hmul, Nat.add_comm]
    refine ⟨sortG lt (l.take (2 * bs)) ++ X, by rw [List.length_append, sortG_len, h1, hmul, List.length_take]; omega, ?_, ?_, fun D => ?_⟩
    · rw [mix, h2, hd0, List.append_assoc]
    · rw [mix, h3, hd0, List.append_assoc]
    · rw [show J + 1 + D = (J + D) + 1 by omega]
      simp only [blk]
      rw [h4, hd0, List.append_assoc]
theorem mix_len (lt : α → α → Bool) (bs J : Nat) : ∀ (l : List α), (mix lt bs J l).length = l.length := by
  induction J with
  | zero => intro l; exact allB_len lt bs l
  | succ J ih => intro l; simp only [mix, List.length_append]; rw [sortG_len, ih, List.length_take, List.length_drop]; omega
variable {lt : α → α → Bool}
theorem mix_merge (W : Weak lt) {bs J : Nat} (hb : 0 < bs) {l : List α} {a b : Nat} (ha : a = J * (2 * bs)) (hbe : b = a + 2 * bs) (hn : b ≤ l.length) :
    mAt lt a (a + bs) b (mix lt bs J l) = mix lt bs (J + 1) l ∧ Srt lt (((mix lt bs J l).drop a).take (a + bs - a)) ∧ Srt lt (((mix lt bs J l).drop (a + bs)).take (b - (a + bs))) := by
  obtain ⟨X, h1, h2, h3, _⟩ := mix_next lt hb J l (by omega)
  rw [← ha] at h1 h2 h3
  rw [h2, h3, allB_step lt hb, allB_step lt hb ((l.drop a).drop bs)]
  have l1 : (sortG lt ((l.drop a).take bs)).length = bs := by rw [sortG_len]; simp; omega
  have l2 : (sortG lt (((l.drop a).drop bs).take bs)).length = bs := by rw [sortG_len]; simp; omega
  refine ⟨?_, ?_, ?_⟩
  · rw [mAt_parts lt X _ _ _ h1.symm (by omega) (by omega), ← sortG_app W]
    have e : (l.drop a).take bs ++ ((l.drop a).drop bs).take bs = (l.drop a).take (2 * bs) := by
      rw [show 2 * bs = bs + bs by omega, List.take_add]
    rw [e, List.drop_drop, show bs + bs = 2 * bs by omega]
  · rw [piece X _ _ h1.symm (by omega)]; exact sortG_sorted W _
  · have := piece (X ++ sortG lt ((l.drop a).take bs)) (sortG lt (((l.drop a).drop bs).take bs)) (allB lt bs (((l.drop a).drop bs).drop bs)) (a := a + bs) (k := b - (a + bs)) (by simp [l1, h1]) (by omega)
    rw [List.append_assoc] at this
    rw [this]; exact sortG_sorted W _
theorem mix_last (W : Weak lt) {bs J : Nat} (hb : 0 < bs) {l : List α} {a n : Nat} (ha : a = J * (2 * bs)) (hn : n = l.length) (han : a ≤ n) (hlt : n < a + 2 * bs) :
    (a + bs < n → mAt lt a (a + bs) n (mix lt bs J l) = allB lt (2 * bs) l ∧ Srt lt (((mix lt bs J l).drop a).take (a + bs - a)) ∧ Srt lt (((mix lt bs J l).drop (a + bs)).take (n - (a + bs)))) ∧ (n ≤ a + bs → mix lt bs J l = allB lt (2 * bs) l) := by
  obtain ⟨X, h1, h2, _, h4⟩ := mix_next lt hb J l (by omega)
  rw [← ha] at h1 h2
  have h5 := h4 1
  rw [allB_of lt (by omega) (by rw [Nat.succ_mul]; omega), ← ha] at h5
  simp only [blk] at h5
  rw [List.take_of_length_le (by simp; omega), List.drop_of_length_le (i := 2 * bs) (by simp; omega), List.append_nil] at h5
  rw [h2, h5]
  refine ⟨fun h => ?_, fun h => ?_⟩
  · rw [allB_step lt hb, allB_one lt (l := (l.drop a).drop bs) (by simp; omega) hb]
    have l1 : (sortG lt ((l.drop a).take bs)).length = bs := by rw [sortG_len]; simp; omega
    have l2 : (sortG lt ((l.drop a).drop bs)).length = n - (a + bs) := by rw [sortG_len]; simp; omega
    refine ⟨?_, ?_, ?_⟩
    · have := mAt_parts lt X (sortG lt ((l.drop a).take bs)) (sortG lt ((l.drop a).drop bs)) [] (a := a) (m := a + bs) (b := n) h1.symm (by omega) (by omega)
      rw [List.append_nil, List.append_nil] at this
      rw [this, ← sortG_app W, List.take_append_drop]
    · rw [piece X _ _ h1.symm (by omega)]; exact sortG_sorted W _
    · have := piece (X ++ sortG lt ((l.drop a).take bs)) (sortG lt ((l.drop a).drop bs)) [] (a := a + bs) (k := n - (a + bs)) (by simp [l1, h1]) (by omega)
      rw [List.append_assoc, List.append_nil] at this
      rw [this]; exact sortG_sorted W _
  · rw [allB_one lt (by simp; omega) hb]
end
end Go.Proofs.Ytcmfnfkahdconaa.AM

set_option linter.unusedVariables false
set_option linter.unusedSimpArgs false
set_option linter.unusedSectionVars false
namespace Go.Proofs.Ytcmfnfkahdconaa.AM
open Go
section
variable {α : Type} [Inhabited α]
theorem st_block (cmp : α → α → Int) {l : List α} {j a b : Nat} (ha : a = j * 20) (hb : b = a + 20) (hn : b ≤ l.length) : insSort cmp a (b - (a + 1)) (a + 1) (blk (ltF cmp) 20 j l) = blk (ltF cmp) 20 (j + 1) l := by
  obtain ⟨X, h1, h2, h3⟩ := blk_next (ltF cmp) 20 j l (by omega)
  have h4 : blk (ltF cmp) 20 1 (l.drop (j * 20)) = sortG (ltF cmp) ((l.drop (j * 20)).take 20) ++ (l.drop (j * 20)).drop 20 := by simp only [blk]
  rw [h2, h3 1, h4, ← ha]
  have := insSort_part cmp X ((l.drop a).take 20) ((l.drop a).drop 20) (a := a) (b := b) (by omega) (by simp; omega)
  rw [List.take_append_drop] at this
  exact this
theorem st_tail (cmp : α → α → Int) {l : List α} {j a n : Nat} (ha : a = j * 20) (hn : n = l.length) (han : a ≤ n) (hlt : n < a + 20) : insSort cmp a (n - (a + 1)) (a + 1) (blk (ltF cmp) 20 j l) = allB (ltF cmp) 20 l := by
  obtain ⟨X, h1, h2, h3⟩ := blk_next (ltF cmp) 20 j l (by omega)
  have h4 : blk (ltF cmp) 20 1 (l.drop (j * 20)) = sortG (ltF cmp) ((l.drop (j * 20)).take 20) ++ (l.drop (j * 20)).drop 20 := by simp only [blk]
  rw [← allB_of (ltF cmp) (bs := 20) (K := j + 1) (by omega) (by omega), h2, h3 1, h4, ← ha]
  have := insSort_part cmp X (l.drop a) [] (a := a) (b := n) (by omega) (by simp; omega)
  rw [List.append_nil, List.append_nil] at this
  rw [this, List.take_of_length_le (by simp; omega), List.drop_of_length_le (i := 20) (by simp; omega), List.append_nil]
  rfl
end
end Go.Proofs.Ytcmfnfkahdconaa.AM
