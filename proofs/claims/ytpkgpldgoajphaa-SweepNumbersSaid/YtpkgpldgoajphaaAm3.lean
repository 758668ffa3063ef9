/-
  AM: the operations that ask nothing of exclusive objects do in the model what the evaluator says: each operation.
-/
import Derived.Test.YtpkgpldgoajphaaAm2
set_option linter.unusedVariables false
set_option linter.unusedSimpArgs false
namespace Go.Proofs.Ytpkgpldgoajphaa.AM
open Go
section
variable {P : Program} {T : TT} {G : Nat → Prop} {w : World} {C : Cx} {F : Fr} {act : Act}

theorem evInt_sound {op : BinOp} {k : IntKind} {a b : Int} {r : AV} (t : TypeId) (h : evInt op k a b = some r) (hs : op ≠ .shl) (hs' : op ≠ .shr) : ∃ z, (binOp op t (.int k a) (.int k b)).run P w = .ok z w ∧ VR G w C r z := by
  cases op <;> simp [evInt] at h <;> first
    | exact absurd rfl hs
    | exact absurd rfl hs'
    | (subst h; refine ⟨_, by simp [binOp, Op.intArith, Op.intDiv, Op.intBits, Op.intCmp]; rfl, ?_⟩; constructor)
    | (obtain ⟨hb, h⟩ := h; subst h; refine ⟨_, by simp [binOp, Op.intArith, Op.intDiv, Op.intBits, Op.intCmp, hb]; rfl, ?_⟩; constructor)
theorem evStr_sound {op : BinOp} {a b : ByteArray} {r : AV} (t : TypeId) (h : evStr op a b = some r) : ∃ z, (binOp op t (.string a) (.string b)).run P w = .ok z w ∧ VR G w C r z := by
  cases op <;> simp [evStr] at h <;> first
    | (subst h; refine ⟨_, by simp [binOp, Op.stringOp]; rfl, ?_⟩; constructor)
    | (obtain ⟨hb, h⟩ := h; subst h; refine ⟨.string (a ++ b), ?_, by constructor⟩; simp only [binOp, Op.stringOp]; rw [if_neg (by simpa using hb)]; rfl)
theorem eqGuard_plain {op : BinOp} {t : TypeId} {x y : Operand} {u v : Value} (h1 : u ≠ .nilIface ∨ v ≠ .nilIface ∨ isConst x = true ∨ isConst y = true) (h2 : (∀ xs, u ≠ .agg xs) ∨ (∀ xs, v ≠ .agg xs)) :
    (eqGuard op t x y u v).run P w = .ok () w := by
  have hn : u = .nilIface → v = .nilIface → isConst x = true ∨ isConst y = true := by
    intro hu hv
    rcases h1 with h | h | h
    · exact absurd hu h
    · exact absurd hv h
    · exact h
  have ha : ∀ xs ys, u = .agg xs → v = .agg ys → False := by
    intro xs ys hu hv
    rcases h2 with h | h
    · exact h _ hu
    · exact h _ hv
  clear h1 h2
  cases op <;> first
    | rfl
    | (cases u <;> cases v <;> first
        | rfl
        | exact (ha _ _ rfl rfl).elim
        | (have hc := hn rfl rfl; cases x <;> cases y <;> first | rfl | (simp [isConst] at hc)))
theorem equal_eq {t : TypeId} {u v : Value} {b : Bool} (h : (Op.equalIn 10000 t u v).run P w = .ok b w) : (Op.equal t u v).run P w = .ok b w := h

theorem eqp1 (d : Nat) {t e : TypeId} (hu : P.underlying t = some (.pointer e)) (b : Option Addr) : (Op.equalIn (d + 1) t (.pointer none) (.pointer b)).run P w = .ok b.isNone w := by simp [Op.equalIn, run_underlying hu]
theorem eqp2 (d : Nat) {t e : TypeId} (hu : P.underlying t = some (.pointer e)) (a : Addr) : (Op.equalIn (d + 1) t (.pointer (some a)) (.pointer none)).run P w = .ok false w := by simp [Op.equalIn, run_underlying hu]
theorem eqi1 (d : Nat) {t : TypeId} {ms : Array (String × TypeId)} (hu : P.underlying t = some (.interface ms)) : (Op.equalIn (d + 1) t .nilIface .nilIface).run P w = .ok true w := by simp [Op.equalIn, run_underlying hu]
theorem eqi2 (d : Nat) {t : TypeId} {ms : Array (String × TypeId)} (hu : P.underlying t = some (.interface ms)) (x : TypeId) (v : Value) : (Op.equalIn (d + 1) t .nilIface (.iface x v)).run P w = .ok false w := by simp [Op.equalIn, run_underlying hu]
theorem eqi3 (d : Nat) {t : TypeId} {ms : Array (String × TypeId)} (hu : P.underlying t = some (.interface ms)) (x : TypeId) (v : Value) : (Op.equalIn (d + 1) t (.iface x v) .nilIface).run P w = .ok false w := by simp [Op.equalIn, run_underlying hu]
theorem eqs1 (d : Nat) {t e : TypeId} (hu : P.underlying t = some (.slice e)) (n c m k : Nat) (b : Option Addr) : (Op.equalIn (d + 1) t (.slice none n c) (.slice b m k)).run P w = .ok b.isNone w := by simp [Op.equalIn, run_underlying hu]
theorem eqs2 (d : Nat) {t e : TypeId} (hu : P.underlying t = some (.slice e)) (n c m k : Nat) (a : Addr) : (Op.equalIn (d + 1) t (.slice (some a) n c) (.slice none m k)).run P w = .ok false w := by simp [Op.equalIn, run_underlying hu]

theorem evEq_sound (hT : TOk P T) {op : BinOp} {t : TypeId} {x y : Operand} {a b : AV} {u v : Value} {r : Bool} (ha : VR G w C a u) (hb : VR G w C b v) (h : evEq T t a b = some r)
    (hc : a = .nili → b = .nili → isConst x = true ∨ isConst y = true) : (Op.equal t u v).run P w = .ok r w ∧ (eqGuard op t x y u v).run P w = .ok () w ∧ (∀ k n, u ≠ .int k n) ∧ (∀ s, u ≠ .string s) ∧ (∀ k n, u ≠ .float k n) ∧ ∀ k n m, u ≠ .complex k n m := by
  unfold evEq at h
  split at h
  · rename_i ht
    have hti := hT _ _ ht
    unfold eqB at h
    split at h
    · rename_i h1 h2
      simp only [Option.some.injEq] at h h1 h2
      subst h1 h2
      cases ha; cases hb
      subst h
      exact ⟨equal_eq (run_equalIn_bool' w 9999 t _ _ hti.und), eqGuard_plain (.inl (by simp)) (.inl (by simp)), by simp, by simp, by simp, by simp⟩
    · simp at h
  · rename_i fs size _ _ ht
    have hti := hT _ _ ht
    split at h
    · rename_i xs ys
      split at h
      · rename_i hlen
        cases ha with
        | agg _ _ us hs h1 hv =>
          cases hb with
          | agg _ _ vs hs' h1' hv' =>
            obtain ⟨fields, hu, hm, hne, hst, hg⟩ := hti.und
            have hfo : P.fieldsOf t = fields := by simp [Program.fieldsOf, hu]
            refine ⟨equal_eq ?_, run_eqGuard_agg w op t x y us vs hg, by simp, by simp, by simp, by simp⟩
            rw [run_equalIn_struct w 9999 t _ _ (by rw [hfo]; exact hu) hst, hfo]
            exact eqFields_sound hT 40 9999 fields.toList _ _ _ _ _ (by omega) hne (CR.of hs hv) (CR.of hs' hv') (by rw [hm]; exact h)
      · simp at h
    · simp at h
  · rename_i ht
    have hti := hT _ _ ht
    have hu : P.underlying t = some (.pointer _) := hti.und
    have key : ∀ {a b : AV} {u v : Value}, VR G w C a u → VR G w C b v → b = .nilp → nilP a = some r → (Op.equal t u v).run P w = .ok r w ∧ (eqGuard op t x y u v).run P w = .ok () w ∧ (∀ k n, u ≠ .int k n) ∧ (∀ s, u ≠ .string s) ∧ (∀ k n, u ≠ .float k n) ∧ ∀ k n m, u ≠ .complex k n m := by
      intro a b u v ha hb hbn hn
      subst hbn
      cases hb
      cases ha <;> simp [nilP] at hn <;> subst hn <;> exact ⟨equal_eq (by first | exact eqp1 9999 hu _ | exact eqp2 9999 hu _ | exact eqi1 9999 hu | exact eqi2 9999 hu _ _ | exact eqi3 9999 hu _ _ | exact eqs1 9999 hu _ _ _ _ _ | exact eqs2 9999 hu _ _ _ _ _), eqGuard_plain (.inl (by simp)) (.inl (by simp)), by simp, by simp, by simp, by simp⟩
    have key' : ∀ {a b : AV} {u v : Value}, VR G w C a u → VR G w C b v → a = .nilp → nilP b = some r → (Op.equal t u v).run P w = .ok r w ∧ (eqGuard op t x y u v).run P w = .ok () w ∧ (∀ k n, u ≠ .int k n) ∧ (∀ s, u ≠ .string s) ∧ (∀ k n, u ≠ .float k n) ∧ ∀ k n m, u ≠ .complex k n m := by
      intro a b u v ha hb hbn hn
      subst hbn
      cases ha
      cases hb <;> simp [nilP] at hn <;> subst hn <;> exact ⟨equal_eq (by first | exact eqp1 9999 hu _ | exact eqp2 9999 hu _ | exact eqi1 9999 hu | exact eqi2 9999 hu _ _ | exact eqi3 9999 hu _ _ | exact eqs1 9999 hu _ _ _ _ _ | exact eqs2 9999 hu _ _ _ _ _), eqGuard_plain (.inl (by simp)) (.inl (by simp)), by simp, by simp, by simp, by simp⟩
    split at h
    · exact key ha hb rfl h
    · split at h
      · exact key' ha hb rfl h
      · simp at h
  · rename_i ht
    have hti := hT _ _ ht
    obtain ⟨ms, hu⟩ := hti.und
    split at h
    · cases hb
      cases ha <;> simp [nilI] at h <;> subst h
      · exact ⟨equal_eq (by first | exact eqp1 9999 hu _ | exact eqp2 9999 hu _ | exact eqi1 9999 hu | exact eqi2 9999 hu _ _ | exact eqi3 9999 hu _ _ | exact eqs1 9999 hu _ _ _ _ _ | exact eqs2 9999 hu _ _ _ _ _), eqGuard_plain (.inr (.inr (hc rfl rfl))) (.inl (by simp)), by simp, by simp, by simp, by simp⟩
      · exact ⟨equal_eq (by first | exact eqp1 9999 hu _ | exact eqp2 9999 hu _ | exact eqi1 9999 hu | exact eqi2 9999 hu _ _ | exact eqi3 9999 hu _ _ | exact eqs1 9999 hu _ _ _ _ _ | exact eqs2 9999 hu _ _ _ _ _), eqGuard_plain (.inl (by simp)) (.inl (by simp)), by simp, by simp, by simp, by simp⟩
    · split at h
      · cases ha
        cases hb <;> simp [nilI] at h <;> subst h
        · exact ⟨equal_eq (by first | exact eqp1 9999 hu _ | exact eqp2 9999 hu _ | exact eqi1 9999 hu | exact eqi2 9999 hu _ _ | exact eqi3 9999 hu _ _ | exact eqs1 9999 hu _ _ _ _ _ | exact eqs2 9999 hu _ _ _ _ _), eqGuard_plain (.inr (.inr (hc rfl rfl))) (.inl (by simp)), by simp, by simp, by simp, by simp⟩
        · exact ⟨equal_eq (by first | exact eqp1 9999 hu _ | exact eqp2 9999 hu _ | exact eqi1 9999 hu | exact eqi2 9999 hu _ _ | exact eqi3 9999 hu _ _ | exact eqs1 9999 hu _ _ _ _ _ | exact eqs2 9999 hu _ _ _ _ _), eqGuard_plain (.inr (.inl (by simp))) (.inl (by simp)), by simp, by simp, by simp, by simp⟩
      · simp at h
  · rename_i ht
    have hti := hT _ _ ht
    have hu : P.underlying t = some (.slice _) := hti.und
    split at h
    · cases hb with
      | sl _ _ _ _ _ _ hg => exact absurd rfl hg
      | nils =>
        cases ha with
        | nils _ g k hg' => rcases hg' with rfl | rfl | rfl <;> simp [nilS] at h <;> (subst h; exact ⟨equal_eq (by first | exact eqp1 9999 hu _ | exact eqp2 9999 hu _ | exact eqi1 9999 hu | exact eqi2 9999 hu _ _ | exact eqi3 9999 hu _ _ | exact eqs1 9999 hu _ _ _ _ _ | exact eqs2 9999 hu _ _ _ _ _), eqGuard_plain (.inl (by simp)) (.inl (by simp)), by simp, by simp, by simp, by simp⟩)
        | sl _ g xs k ad cap hg =>
          cases g with
          | nil => exact absurd rfl hg
          | _ => simp [nilS] at h <;> (subst h; exact ⟨equal_eq (by first | exact eqp1 9999 hu _ | exact eqp2 9999 hu _ | exact eqi1 9999 hu | exact eqi2 9999 hu _ _ | exact eqi3 9999 hu _ _ | exact eqs1 9999 hu _ _ _ _ _ | exact eqs2 9999 hu _ _ _ _ _), eqGuard_plain (.inl (by simp)) (.inl (by simp)), by simp, by simp, by simp, by simp⟩)
        | _ => simp [nilS] at h
    · split at h
      · cases ha with
        | sl _ _ _ _ _ _ hg => exact absurd rfl hg
        | nils =>
          cases hb with
          | nils _ g k hg' => rcases hg' with rfl | rfl | rfl <;> simp [nilS] at h <;> (subst h; exact ⟨equal_eq (by first | exact eqp1 9999 hu _ | exact eqp2 9999 hu _ | exact eqi1 9999 hu | exact eqi2 9999 hu _ _ | exact eqi3 9999 hu _ _ | exact eqs1 9999 hu _ _ _ _ _ | exact eqs2 9999 hu _ _ _ _ _), eqGuard_plain (.inl (by simp)) (.inl (by simp)), by simp, by simp, by simp, by simp⟩)
          | sl _ g xs k ad cap hg =>
            cases g with
            | nil => exact absurd rfl hg
            | _ => simp [nilS] at h <;> (subst h; exact ⟨equal_eq (by first | exact eqp1 9999 hu _ | exact eqp2 9999 hu _ | exact eqi1 9999 hu | exact eqi2 9999 hu _ _ | exact eqi3 9999 hu _ _ | exact eqs1 9999 hu _ _ _ _ _ | exact eqs2 9999 hu _ _ _ _ _), eqGuard_plain (.inl (by simp)) (.inl (by simp)), by simp, by simp, by simp, by simp⟩)
          | _ => simp [nilS] at h
      · simp at h
  · simp at h
end
end Go.Proofs.Ytpkgpldgoajphaa.AM
