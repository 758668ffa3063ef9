/-
  AM: the table of types is the program's; a law's call.
-/
import Derived.Test.YtpkgpldgoajphaaAm24
import Derived.RowKit3
set_option linter.unusedVariables false
set_option linter.unusedSimpArgs false
namespace Go.Proofs.Ytpkgpldgoajphaa.AM
open Go

mutual
theorem AV.beq_eq : ∀ (a b : AV), AV.beq a b = true → a = b
  | .skip, b, h => by cases b <;> simp [AV.beq] at h; rfl
  | .unk, b, h => by cases b <;> simp [AV.beq] at h; rfl
  | .bool x, b, h => by cases b <;> simp [AV.beq] at h; subst h; rfl
  | .int k x, b, h => by cases b <;> simp [AV.beq] at h; obtain ⟨rfl, rfl⟩ := h; rfl
  | .str s, b, h => by cases b <;> simp [AV.beq] at h; subst h; rfl
  | .nilp, b, h => by cases b <;> simp [AV.beq] at h; rfl
  | .nilf, b, h => by cases b <;> simp [AV.beq] at h; rfl
  | .nili, b, h => by cases b <;> simp [AV.beq] at h; rfl
  | .func f xs, b, h => by cases b <;> simp [AV.beq] at h; obtain ⟨rfl, h⟩ := h; rw [AV.beqs_eq _ _ h]
  | .iface t a, b, h => by cases b <;> simp [AV.beq] at h; obtain ⟨rfl, h⟩ := h; rw [AV.beq_eq _ _ h]
  | .agg xs, b, h => by cases b <;> simp [AV.beq] at h; rw [AV.beqs_eq _ _ h]
  | .tup xs, b, h => by cases b <;> simp [AV.beq] at h; rw [AV.beqs_eq _ _ h]
  | .ref xs c, b, h => by cases b <;> simp [AV.beq] at h; obtain ⟨h, rfl⟩ := h; rw [AV.beqs_eq _ _ h]
  | .sl g k xs, b, h => by cases b <;> simp [AV.beq] at h; obtain ⟨⟨rfl, rfl⟩, h⟩ := h; rw [AV.beqss_eq _ _ h]
  | .obj .., b, h => by cases b <;> simp [AV.beq] at h; obtain ⟨⟨⟨rfl, rfl⟩, rfl⟩, rfl⟩ := h; rfl
  | .osl .., b, h => by cases b <;> simp [AV.beq] at h; obtain ⟨⟨⟨⟨rfl, rfl⟩, rfl⟩, rfl⟩, rfl⟩ := h; rfl
theorem AV.beqs_eq : ∀ (a b : List AV), AV.beqs a b = true → a = b
  | [], b, h => by cases b <;> simp [AV.beqs] at h; rfl
  | a :: as, b, h => by
    cases b with
    | nil => simp [AV.beqs] at h
    | cons b bs =>
      simp only [AV.beqs, Bool.and_eq_true] at h
      rw [AV.beq_eq _ _ h.1, AV.beqs_eq _ _ h.2]
theorem AV.beqss_eq : ∀ (a b : List (List AV)), AV.beqss a b = true → a = b
  | [], b, h => by cases b <;> simp [AV.beqss] at h; rfl
  | a :: as, b, h => by
    cases b with
    | nil => simp [AV.beqss] at h
    | cons b bs =>
      simp only [AV.beqss, Bool.and_eq_true] at h
      rw [AV.beqs_eq _ _ h.1, AV.beqss_eq _ _ h.2]
end

def fieldsEq : List Field → List (TypeId × Nat) → Bool
  | [], [] => true
  | f :: fs, (t, o) :: l => Nat.beq f.type t && (Nat.beq f.offset o && fieldsEq fs l)
  | _, _ => false
def tdOk (P : Program) (t : TypeId) (d : TD) (u : TypeDesc) : Bool :=
  match d, u with
  | .int k, .int j => decide (k = j)
  | .bool, .bool => true
  | .string, .string => true
  | .ptr e, .pointer e' => Nat.beq e e'
  | .slice e, .slice e' => Nat.beq e e'
  | .struct fs, .struct l => fieldsEq l.toList fs && l.toList.all (fun f => !decide (f.name = "_")) && !P.stoodInHeld t && !P.eqGuardType P.depth t && l.toList.all (fun f => (P.info? f.type).isSome)
  | .array n e, .array n' e' => Nat.beq n n' && Nat.beq e e'
  | .iface, .interface _ => true
  | .func, .func _ _ _ => true
  | _, _ => false
def isAggV : Value → Bool
  | .agg _ => true
  | _ => false
def tiOk (P : Program) (t : TypeId) (ti : TI) : Bool :=
  match P.info? t, P.underlying t with
  | some i, some u => Nat.beq i.size ti.size && Nat.beq i.bytes ti.bytes && Nat.beq ti.zero.length ti.size && (match i.zero with
      | some z => (match ofScalars z.cells.toList with
        | some l => AV.beqs l ti.zero
        | none => false) && (isAggV z == ti.agg)
      | none => false) && tdOk P t ti.d u
  | _, _ => false
theorem fieldsEq_map : ∀ {fs : List Field} {l : List (TypeId × Nat)}, fieldsEq fs l = true → fs.map (fun f => (f.type, f.offset)) = l
  | [], [], _ => rfl
  | f :: fs, (t, o) :: l, h => by
    simp only [fieldsEq, Bool.and_eq_true] at h
    rw [List.map_cons, fieldsEq_map h.2.2, Nat.eq_of_beq_eq_true h.1, Nat.eq_of_beq_eq_true h.2.1]
  | [], _ :: _, h => by simp [fieldsEq] at h
  | _ :: _, [], h => by simp [fieldsEq] at h
theorem tiOk_sound {P : Program} {t : TypeId} {ti : TI} (h : tiOk P t ti = true) : TIok P t ti := by
  unfold tiOk at h
  split at h
  case h_2 => simp at h
  rename_i i u hi hu
  simp only [Bool.and_eq_true] at h
  obtain ⟨⟨⟨⟨h1, h2⟩, h3⟩, h4⟩, h5⟩ := h
  have hd : TDok P t ti.d ∧ ∀ {fields : Array Field}, P.underlying t = some (.struct fields) → ∀ f ∈ fields.toList, P.info? f.type ≠ none := by
    revert h5
    generalize ti.d = d
    intro h5
    unfold tdOk at h5
    split at h5
    · simp only [decide_eq_true_eq] at h5; subst h5; exact ⟨hu, fun hf => by rw [hu] at hf; simp at hf⟩
    · exact ⟨hu, fun hf => by rw [hu] at hf; simp at hf⟩
    · exact ⟨hu, fun hf => by rw [hu] at hf; simp at hf⟩
    · rw [Nat.eq_of_beq_eq_true h5]; exact ⟨hu, fun hf => by rw [hu] at hf; simp at hf⟩
    · rw [Nat.eq_of_beq_eq_true h5]; exact ⟨hu, fun hf => by rw [hu] at hf; simp at hf⟩
    · rename_i fs l
      simp only [Bool.and_eq_true] at h5
      obtain ⟨⟨⟨⟨h6, h7⟩, h8⟩, h9⟩, h10⟩ := h5
      refine ⟨⟨l, hu, fieldsEq_map h6, fun f hf => ?_, by simpa using h8, by simpa using h9⟩, fun hf => ?_⟩
      · have := List.all_eq_true.1 h7 f hf
        simpa using this
      · rw [hu] at hf
        simp only [Option.some.injEq, TypeDesc.struct.injEq] at hf
        subst hf
        intro f hf hn
        have := List.all_eq_true.1 h10 f hf
        rw [hn] at this; simp at this
    · simp only [Bool.and_eq_true] at h5
      rw [Nat.eq_of_beq_eq_true h5.1, Nat.eq_of_beq_eq_true h5.2]; exact ⟨hu, fun hf => by rw [hu] at hf; simp at hf⟩
    · exact ⟨⟨_, hu⟩, fun hf => by rw [hu] at hf; simp at hf⟩
    · exact ⟨⟨_, _, _, hu⟩, fun hf => by rw [hu] at hf; simp at hf⟩
    · simp at h5
  refine ⟨⟨i, hi, Nat.eq_of_beq_eq_true h1, Nat.eq_of_beq_eq_true h2, ?_⟩, hd.1, hd.2⟩
  split at h4
  case h_2 => simp at h4
  rename_i z hz
  simp only [Bool.and_eq_true] at h4
  obtain ⟨h6, h7⟩ := h4
  split at h6
  case h_2 => simp at h6
  rename_i l hl
  refine ⟨z, hz, by rw [hl, AV.beqs_eq _ _ h6], Nat.eq_of_beq_eq_true h3, ?_⟩
  rw [← (beq_iff_eq.1 h7)]
  cases z <;> simp [isAggV]
theorem TOk.of {P : Program} {l : List (Nat × TI)} (h : l.all (fun p => tiOk P p.1 p.2) = true) : TOk P (fun t => assoc t l) := by
  intro t ti ht
  have key : ∀ (l : List (Nat × TI)), assoc t l = some ti → (t, ti) ∈ l := by
    intro l
    induction l with
    | nil => intro h; simp [assoc] at h
    | cons p l ih =>
      intro h
      obtain ⟨m, a⟩ := p
      simp only [assoc] at h
      split at h
      · rename_i he
        simp only [Option.some.injEq] at h
        rw [Nat.eq_of_beq_eq_true he, h]; simp
      · exact List.mem_cons_of_mem _ (ih h)
  exact tiOk_sound (List.all_eq_true.1 h _ (key l ht))

section
variable {P : Program}
theorem Ev.grown {G G' : Nat → Prop} {w w' : World} {C' : Cx} (h : Ev G w Cx.none G' w' C') : Go.RowKit.Grown w w' :=
  ⟨⟨h.os, h.output, fun b hb => by
    rw [h.rest b hb fun id l hl => by simp [Cx.none] at hl]
    have := (World.keptBut_refl w (fun _ => False)).2.2 b hb
    exact this⟩, h.frz, h.size⟩

/-- A call over no objects, in any world. -/
theorem ACalls.calls {f : FuncId} {fn : Func} (hf : Has P f fn) {args : List AV} {a : AV} {H' : Heap} (h : ACalls P f args [] (a, H')) {vs : Array Value} {w : World} {G : Nat → Prop} (hsz : vs.size = args.length)
    (hargs : ∀ i, i < args.length → VR G w Cx.none (args.getD i .skip) (vs.getD i undef)) (hG : ∀ b, G b → b < w.heap.size) :
    Calls P f vs w fun e w' => ∃ v G' C', e = .returned v ∧ Ev G w Cx.none G' w' C' ∧ VR G' w' C' a v := by
  have hH : HR G w Cx.none [] := ⟨fun id o ho => by simp at ho, fun id _ => ⟨rfl, rfl⟩, fun id l b hl => by simp [Cx.none] at hl, fun i j l l' b hl => by simp [Cx.none] at hl, fun id o l ho => by simp at ho, hG⟩
  have hc := h G w Cx.none vs hsz hargs hH
  have hcf : (callFunc f vs).run P w = .ok (.enter f vs) w := by
    simp only [callFunc, Sem.run_bind, run_program, Result.andThen_ok, hf.get]
    simp [hf.name, hf.body]
  unfold FCalls at hc
  rw [hcf] at hc
  exact Calls.mono hc fun e w' ⟨v, he, G', C', h1, h2, h3, h4⟩ => ⟨v, G', C', he, h1, h3⟩

theorem bddss_app {b : Nat} : ∀ {xs : List (List AV)}, AV.bddss 0 xs = true → xs.map (AV.rens (fun i => b + i)) = xs
  | [], _ => rfl
  | x :: xs, h => by
    simp only [AV.bddss, Bool.and_eq_true] at h
    rw [List.map_cons, rens_id x h.1, bddss_app h.2]
/-- A call that needs no objects, among any. -/
theorem ACalls.lift {f : FuncId} {args : List AV} {a : AV} (h : ACalls P f args [] (a, [])) (hargs : AV.bdds 0 args = true) (ha : AV.bdd 0 a = true) (H : Heap) : ACalls P f args H (a, H) := by
  have := h.frame (τ := fun i => H.length + i) (Hb := H) (Hb' := H) ⟨fun i hi => by simp at hi, fun i _ => by simp, fun i j hi => by simp at hi, fun i o ho => by simp at ho⟩ hargs (fun i o ho => by simp at ho) (by simp) (fun i o ho => by simp at ho) fun _ _ _ => rfl
  rwa [rens_id args hargs, ren_id a ha] at this
/-- A call that needs no objects and makes one, which it hands back as a slice. -/
theorem ACalls.lift_osl {f : FuncId} {args : List AV} {g k n : Nat} {o : Ob} (h : ACalls P f args [] (.osl 0 g k 0 n, [o])) (hargs : AV.bdds 0 args = true) (ho : AV.bddss 0 o.els = true) (H : Heap) : ACalls P f args H (.osl H.length g k 0 n, H ++ [o]) := by
  have := h.frame (τ := fun i => H.length + i) (Hb := H) (Hb' := H ++ [o]) ⟨fun i hi => by simp at hi, fun i _ => by simp, fun i j hi => by simp at hi, fun i o ho => by simp at ho⟩ hargs (fun i o ho => by simp at ho) (by simp) (fun i o' ho' => by
    cases i with
    | zero =>
      simp at ho'
      subst ho'
      simp [Ob.ren, bddss_app ho]
    | succ i => simp at ho') fun j hj _ => by rw [List.getElem?_append_left hj]
  rw [rens_id args hargs] at this
  simpa [AV.ren] using this
end
end Go.Proofs.Ytpkgpldgoajphaa.AM
