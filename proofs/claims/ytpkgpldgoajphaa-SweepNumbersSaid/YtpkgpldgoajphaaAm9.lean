/-
  AM: all operations that ask nothing of exclusive objects: together.
-/
import Derived.Test.YtpkgpldgoajphaaAm8
set_option linter.unusedVariables false
set_option linter.unusedSimpArgs false
namespace Go.Proofs.Ytpkgpldgoajphaa.AM
open Go
section
variable {P : Program} {T : TT} {G : Nat → Prop} {w : World} {C : Cx} {F : Fr} {act : Act} {H : Heap}

theorem Out.of {s : Sem Value} {a : AV} (hH : HR G w C H) (h : ∃ v, s.run P w = .ok v w ∧ VR G w C a v) : Out P G w C H (do pure (.value (← s))) a := by
  obtain ⟨v, h1, h2⟩ := h
  exact .still hH (by simp [h1]) h2
theorem max2_int {k k' : IntKind} {a b : Int} : (Builtin.max_ #[] 0 #[.int k a, .int k' b]).run P w = .ok (.int k (if b > a then b else a)) w := by
  simp [Builtin.max_, Builtin.max2]
theorem min2_int {k k' : IntKind} {a b : Int} : (Builtin.min_ #[] 0 #[.int k a, .int k' b]).run P w = .ok (.int k (if b < a then b else a)) w := by
  simp [Builtin.min_, Builtin.min2]

theorem evP_sound (hT : TOk P T) (hF : FrR G w C F act.tmps) (hH : HR G w C H) {o : Oper} {a : AV} (h : evP T F o.op = some a) : Out P G w C H (execOp act.eval o) a := by
  cases hop : o.op with
  | move x => rw [hop] at h; simp only [evP] at h; exact .still hH (by simp [execOp, hop]) (opv_sound hF h)
  | assign x => rw [hop] at h; simp only [evP] at h; exact .still hH (by simp [execOp, hop]) (opv_sound hF h)
  | pick c x y =>
    rw [hop] at h
    simp only [evP] at h
    split at h
    · rename_i b hc
      have hcb := opv_sound (act := act) hF hc
      generalize hce : act.eval c = cv at hcb
      cases hcb
      have hrun : (execOp act.eval o).run P w = .ok (.value (if b then act.eval x else act.eval y)) w := by
        simp [execOp, hop, hce, asBool]
      refine .still hH hrun ?_
      split at h
      · rename_i p q hx hy
        simp only [Option.some.injEq] at h
        subst h
        have h1 := opv_sound (act := act) hF hx
        have h2 := opv_sound (act := act) hF hy
        cases b
        · simpa using h2
        · simpa using h1
      · cases b
        · exact opv_sound hF h
        · exact opv_sound hF h
    · simp at h
  | nilCheck x =>
    rw [hop] at h
    simp only [evP] at h
    split at h
    · rename_i v hv
      cases hn : isNil v with
      | none => simp [hn] at h
      | some b =>
        cases b
        · simp [hn] at h; subst h
          have := opv_sound (act := act) hF hv
          refine .still hH ?_ this
          generalize hxe : act.eval x = u at this
          simp only [execOp, hop, hxe]
          cases this <;> simp [isNil] at hn <;> rfl
        · simp [hn] at h
    · simp at h
  | binOp op t x y ty =>
    rw [hop] at h
    simp only [evP] at h
    have key : ∀ {p q : AV}, opv F x = some p → opv F y = some q → evBin T op t p q = some a → (p = .nili → q = .nili → isConst x = true ∨ isConst y = true) → Out P G w C H (execOp act.eval o) a := by
      intro p q hx hy hb hc
      have := Out.of hH (evBin_sound hT (op := op) (t := t) (opv_sound (act := act) hF hx) (opv_sound (act := act) hF hy) hb hc)
      simpa only [execOp, hop] using this
    split at h
    · rename_i hx hy
      split at h
      · rename_i hc
        exact key hx hy h fun _ _ => by simpa using hc
      · simp at h
    · rename_i p q hne hx hy
      refine key hx hy h fun e1 e2 => ?_
      exact absurd e2 (fun e2 => hne e1 e2)
    · simp at h
  | unOp op t x =>
    rw [hop] at h
    simp only [evP] at h
    cases hx : opv F x with
    | none => simp [hx] at h
    | some p =>
      simp only [hx, Option.bind_some] at h
      have hp := opv_sound (act := act) hF hx
      have : ∃ v, (Op.unary op (act.eval x)).run P w = .ok v w ∧ VR G w C a v := by
        unfold evUn at h
        split at h
        · simp only [Option.some.injEq] at h; subst h
          generalize act.eval x = u at hp
          cases hp
          exact ⟨_, rfl, .bool ..⟩
        · simp only [Option.some.injEq] at h; subst h
          generalize act.eval x = u at hp
          cases hp
          exact ⟨_, rfl, .int ..⟩
        · simp at h
      have := Out.of hH this
      simpa only [execOp, hop] using this
  | convert src dst x =>
    rw [hop] at h
    simp only [evP] at h
    cases hx : opv F x with
    | none => simp [hx] at h
    | some p =>
      simp only [hx, Option.bind_some] at h
      have hsrc : ∃ ti, T src = some ti := by
        cases ht : T src with
        | some ti => exact ⟨ti, rfl⟩
        | none => simp [evConvert, ht] at h
      have := Out.of hH (evConvert_sound hT (opv_sound (act := act) hF hx) h hsrc)
      simpa only [execOp, hop] using this
  | makeInterface t x =>
    rw [hop] at h
    simp only [evP] at h
    split at h
    · simp at h
    · rename_i ti v hni ht hx
      simp only [Option.some.injEq] at h
      subst h
      have : ∃ u, (Instr.makeInterface t (act.eval x)).run P w = .ok u w ∧ VR G w C (.iface t v) u := by
        refine ⟨.iface t (act.eval x), ?_, .iface _ _ _ _ (opv_sound hF hx)⟩
        have hu := (hT _ _ ht).und
        revert hu
        cases htd : ti.d with
        | iface => obtain ⟨d, s, b, z⟩ := ti; simp at htd; subst htd; exact absurd rfl (hni _ _ _)
        | struct fs => intro hu; obtain ⟨f, hf, _⟩ := hu; simp [Instr.makeInterface, run_underlying hf]
        | func => intro hu; obtain ⟨p, q, r, hf⟩ := hu; simp [Instr.makeInterface, run_underlying hf]
        | other =>
          intro hu
          obtain ⟨d, hf, h1, h2, h3⟩ := hu
          simp only [Instr.makeInterface, Sem.run_bind, run_underlying hf, Result.andThen_ok]
          cases d <;> first | rfl | exact absurd rfl (h3 _)
        | _ => intro hu; simp only [TDok] at hu; simp [Instr.makeInterface, run_underlying hu]
      have := Out.of hH this
      simpa only [execOp, hop] using this
    · simp at h
  | makeFunc fn first captured =>
    rw [hop] at h
    cases fn with
    | func f =>
      simp only [evP] at h
      cases hl : opvs F (first.toList ++ captured.toList) with
      | none => simp [hl] at h
      | some l =>
        simp only [hl, Option.bind_some] at h
        split at h
        · rename_i hfe
          simp only [Option.some.injEq] at h
          subst h
          have hfe' : first = #[] := by simpa using hfe
          subst hfe'
          obtain ⟨h1, h2⟩ := opvs_sound (act := act) hF hl
          have : ∃ u, (Instr.makeFunc (.func f) ((#[] : Array Operand).map act.eval) (captured.map act.eval)).run P w = .ok u w ∧ VR G w C (.func f l) u := by
            refine ⟨.func (.func f) #[] (captured.map act.eval), by simp [Instr.makeFunc], .func _ _ _ _ (by simpa using h1) fun i hi => ?_⟩
            have := h2 i hi
            simpa [Array.getD_eq_getD_getElem?, List.getD_eq_getElem?_getD] using this
          have := Out.of hH this
          simpa only [execOp, hop] using this
        · simp at h
    | _ => simp [evP] at h
  | slice t x lo hi mx =>
    rw [hop] at h
    simp only [evP] at h
    split at h
    · simp at h
    · rename_i hmx
      have hhi : mx ≠ none → hi ≠ none := by
        intro h1 h2
        cases mx with
        | none => exact h1 rfl
        | some m => simp [h2] at hmx
      split at h
      · rename_i ht
        cases hx : opv F x with
        | none => simp [hx] at h
        | some p =>
          simp only [hx, Option.bind_some] at h
          have := Out.of hH (evSlice_str_sound hT hF ht rfl (opv_sound (act := act) hF hx) h)
          simpa only [execOp, hop] using this
      · rename_i e _ _ _ ht
        cases hk : AM.sizeOf T e with
        | none => simp [hk] at h
        | some k =>
          cases hx : opv F x with
          | none => simp [hk, hx] at h
          | some p =>
            simp only [hk, hx, Option.bind_some] at h
            have := Out.of hH (evSlice_sl_sound hT hF ht rfl hk (opv_sound (act := act) hF hx) h hhi)
            simpa only [execOp, hop] using this
      · simp at h
  | fieldAddr s x f =>
    rw [hop] at h
    simp only [evP] at h
    cases hx : opv F x with
    | none => simp [hx] at h
    | some p =>
      simp only [hx, Option.bind_some] at h
      have := Out.of hH (evFieldAddr_sound hT (opv_sound (act := act) hF hx) h)
      simpa only [execOp, hop] using this
  | field s x f =>
    rw [hop] at h
    simp only [evP] at h
    split at h
    · rename_i t o' cs hf hx
      have hp := opv_sound (act := act) hF hx
      have : ∃ v, (Instr.field s (act.eval x) f).run P w = .ok v w ∧ VR G w C a v := by
        generalize act.eval x = u at hp
        cases hp with
        | agg _ _ vs hs h1 hv =>
          obtain ⟨v, hv1, hv2⟩ := part_sound (P := P) hT h hs h1 hv
          unfold fieldOf at hf
          split at hf
          · rename_i fs _ _ _ hts
            obtain ⟨fields, hu, hm, _⟩ := (hT _ _ hts).und
            rw [← hm, List.getElem?_map] at hf
            cases hg : fields.toList[f]? with
            | none => simp [hg] at hf
            | some fl =>
              simp [hg] at hf
              obtain ⟨rfl, rfl⟩ := hf
              have hg' : fields[f]? = some fl := by simpa using hg
              exact ⟨v, by simp [Instr.field, run_underlying hu, hg', asAgg, hv1], hv2⟩
          · simp at hf
      have := Out.of hH this
      simpa only [execOp, hop] using this
    · simp at h
  | indexAddr t x i =>
    rw [hop] at h
    simp only [evP] at h
    split at h
    · rename_i p k n hx hi
      have hp := opv_sound (act := act) hF hi
      generalize hie : act.eval i = u at hp
      cases hp
      have := Out.of hH (evIndexAddr_sound hT (k := k) (opv_sound (act := act) hF hx) h)
      simpa only [execOp, hop, hie] using this
    · simp at h
  | index t x i =>
    rw [hop] at h
    simp only [evP] at h
    split at h
    · rename_i p k n hx hi
      have hp := opv_sound (act := act) hF hi
      generalize hie : act.eval i = u at hp
      cases hp
      have := Out.of hH (evIndex_sound hT (k := k) (opv_sound (act := act) hF hx) h)
      simpa only [execOp, hop, hie] using this
    · simp at h
  | extract x i =>
    rw [hop] at h
    simp only [evP] at h
    split at h
    · rename_i vs hx
      have hp := opv_sound (act := act) hF hx
      have : ∃ v, (Instr.extract (act.eval x) i).run P w = .ok v w ∧ VR G w C a v := by
        generalize act.eval x = u at hp
        cases hp with
        | tup _ _ us hs hv =>
          have hi : i < vs.length := by
            rcases Nat.lt_or_ge i vs.length with h' | h'
            · exact h'
            · rw [List.getElem?_eq_none h'] at h; simp at h
          have := hv i hi
          refine ⟨us.getD i undef, ?_, by simpa [List.getD_eq_getElem?_getD, h] using this⟩
          have hlt : i < us.size := by omega
          simp [Instr.extract, Array.getD_eq_getD_getElem?, Array.getElem?_eq_getElem hlt]
      have := Out.of hH this
      simpa only [execOp, hop] using this
    · simp at h
  | build t parts =>
    rw [hop] at h
    have := Out.of hH (build_sound hT (act := act) hF h)
    simpa only [execOp, hop] using this
  | buildSlice t len parts =>
    rw [hop] at h
    have := buildSlice_sound hT (act := act) hF hH h
    simpa only [execOp, hop] using this
  | load t x =>
    rw [hop] at h
    simp only [evP] at h
    split at h
    · rename_i cs c hx
      have := Out.of hH (load_ref_sound hT (opv_sound (act := act) hF hx) h)
      simpa only [execOp, hop] using this
    · simp at h
  | call c =>
    rw [hop] at h
    obtain ⟨callee, args, argTypes⟩ := c
    cases callee with
    | builtin b =>
      cases b with
      | len =>
        simp only [evP] at h
        split at h
        · rename_i x t hx ht
          have hxa : args = #[x] := Array.ext' hx
          have hta : argTypes = #[t] := Array.ext' ht
          subst hxa hta
          have key : ∀ (n : Nat), (Builtin.len_ #[t] o.type #[act.eval x]).run P w = .ok (.int .i64 n) w → a = .int .i64 n → Out P G w C H (execOp act.eval o) a := by
            intro n h1 h2
            subst h2
            have := Out.of hH ⟨_, h1, VR.int C .i64 n⟩
            simpa [execOp, hop, resolve, invoke, builtin] using this
          split at h
          · rename_i s hts hxs
            simp only [Option.some.injEq] at h
            have hp := opv_sound (act := act) hF hxs
            have hu : P.underlying t = some .string := (hT _ _ hts).und
            refine key _ ?_ h.symm
            generalize act.eval x = u at hp
            cases hp
            simp [Builtin.len_, run_underlying hu, goInt]
          · rename_i g k xs hts hxs
            simp only [Option.some.injEq] at h
            have hp := opv_sound (act := act) hF hxs
            have hu : P.underlying t = some (.slice _) := (hT _ _ hts).und
            refine key _ ?_ h.symm
            generalize act.eval x = u at hp
            cases hp <;> simp [Builtin.len_, run_underlying hu, goInt]
          · rename_i id g k e n hts hxs
            simp only [Option.some.injEq] at h
            have hp := opv_sound (act := act) hF hxs
            have hu : P.underlying t = some (.slice _) := (hT _ _ hts).und
            refine key _ ?_ h.symm
            generalize act.eval x = u at hp
            cases hp <;> simp [Builtin.len_, run_underlying hu, goInt]
          · simp at h
        · simp at h
      | max =>
        simp only [evP] at h
        split at h
        · rename_i x y hx
          have hxa : args = #[x, y] := Array.ext' hx
          subst hxa
          split at h
          · rename_i k m k' n h1 h2
            simp only [Option.some.injEq] at h
            subst h
            have hp := opv_sound (act := act) hF h1
            have hq := opv_sound (act := act) hF h2
            have : ∃ v, (Builtin.max_ argTypes o.type #[act.eval x, act.eval y]).run P w = .ok v w ∧ VR G w C (.int k (if n > m then n else m)) v := by
              generalize act.eval x = u at hp
              generalize act.eval y = v at hq
              cases hp
              cases hq
              exact ⟨.int k (if n > m then n else m), by simp [Builtin.max_, Builtin.max2], .int ..⟩
            have := Out.of hH this
            simpa [execOp, hop, resolve, invoke, builtin] using this
          · simp at h
        · simp at h
      | min =>
        simp only [evP] at h
        split at h
        · rename_i x y hx
          have hxa : args = #[x, y] := Array.ext' hx
          subst hxa
          split at h
          · rename_i k m k' n h1 h2
            simp only [Option.some.injEq] at h
            subst h
            have hp := opv_sound (act := act) hF h1
            have hq := opv_sound (act := act) hF h2
            have : ∃ v, (Builtin.min_ argTypes o.type #[act.eval x, act.eval y]).run P w = .ok v w ∧ VR G w C (.int k (if n < m then n else m)) v := by
              generalize act.eval x = u at hp
              generalize act.eval y = v at hq
              cases hp
              cases hq
              exact ⟨.int k (if n < m then n else m), by simp [Builtin.min_, Builtin.min2], .int ..⟩
            have := Out.of hH this
            simpa [execOp, hop, resolve, invoke, builtin] using this
          · simp at h
        · simp at h
      | _ => simp [evP] at h
    | value f => simp [evP] at h
    | invoke r n => simp [evP] at h
  | _ => rw [hop] at h; simp [evP] at h
end
end Go.Proofs.Ytpkgpldgoajphaa.AM
